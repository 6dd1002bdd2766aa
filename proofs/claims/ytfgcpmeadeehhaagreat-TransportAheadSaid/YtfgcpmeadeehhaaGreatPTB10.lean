/-
 Parts of the proof, as merged from many texts: a machine over data, what the functions compute, plain laws.
-/
import Derived.Test.YtfgcpmeadeehhaaGreatPTB9
import Derived.WalkKit
import Derived.ProofKit
import Derived.OpenShut
import Derived.ChangeStays
import Derived.SizedLaws
import Derived.Deep.LoopGhost
import Derived.Deep.AppendLies
import Derived.Laws.AppendOwnNone
import Derived.Deep.RegionHeld3
set_option linter.unusedSimpArgs false
set_option linter.unusedVariables false
namespace Go.AM
open Go Go.Proofs
def flatN {α : Type} (f : Nat → List α) : Nat → List α
 | 0 => []
 | n + 1 => flatN f n ++ f n
theorem flatN_len {α : Type} {f : Nat → List α} (h : ∀ i, (f i).length ≤ 1) : ∀ n, (flatN f n).length ≤ n
 | 0 => Nat.le_refl _
 | n + 1 => by
  have := flatN_len h n
  have := h n
  simp only [flatN, List.length_append]
  omega
theorem addL_len (t : Ty) (g : Gr) (node kind : Int) (out : Bool) (other : Int) (nodes : List Int) : (addL t g node kind out other nodes).length ≤ 1 := by
 unfold addL
 split <;> simp
def lrA (t : Ty) (g : Gr) (node kind : Int) (out : Bool) (i : Nat) : List Gr := if (out || ((i : Int) != node)) = true then addL t g node kind out i g.nodes else []
def lrB (t : Ty) (g : Gr) (node kind : Int) (out : Bool) (k : Nat) : List Gr := if leafB t k = true then addL t g node kind out g.nodes.length (g.nodes ++ [(k : Int)]) else []
theorem lrA_len (t : Ty) (g : Gr) (node kind : Int) (out : Bool) (i : Nat) : (lrA t g node kind out i).length ≤ 1 := by
 unfold lrA
 split
 ·exact addL_len _ _ _ _ _ _ _
 ·simp
theorem lrB_len (t : Ty) (g : Gr) (node kind : Int) (out : Bool) (i : Nat) : (lrB t g node kind out i).length ≤ 1 := by
 unfold lrB
 split
 ·exact addL_len _ _ _ _ _ _ _
 ·simp
def lrgL (t : Ty) (g : Gr) (node kind : Int) (out : Bool) : List Gr := flatN (lrA t g node kind out) g.nodes.length ++ flatN (lrB t g node kind out) t.nodes.length
def Ac3.cl (x : Ac3) : Ac3 := ⟨x.own, upd x.tok x.nt true, x.nt + 1⟩
def Ac3.cl2 (x : Ac3) : Ac3 := ⟨x.own, upd (upd (upd x.tok x.nt true) x.nt false) (x.nt + 1) true, x.nt + 2⟩
theorem Ac3.Ok.cl {x : Ac3} {tok : Nat → Bool} {nt : Nat} (h : x.Ok tok nt) : x.cl.Ok tok nt := by
 refine ⟨h.adv.trans h.lt ⟨fun t ht _ => ?_, Nat.le_succ _, ?_, .inl rfl, fun t ht => ?_⟩, h.lt⟩
 ·simp only [Ac3.cl, upd]; split; rfl; exact ht
 ·have := h.adv.live
  show x.own.liveP (upd x.tok x.nt true)
  cases e : x.own with
  | full => trivial
  | tok s =>
   rw [e] at this
   simp only [Own.liveP, upd] at this ⊢
   split; rfl; exact this
 ·simp only [Ac3.cl, upd] at ht ⊢
  split at ht
  ·omega
  ·have := h.adv.lt t ht; omega
theorem Ac3.Ok.cl2 {x : Ac3} {tok : Nat → Bool} {nt : Nat} (h : x.Ok tok nt) : x.cl2.Ok tok nt := ⟨h.adv.trans h.lt (Adv.fresh h.adv.live h.adv.lt), h.lt⟩
theorem Ac3.Ok.start {tok : Nat → Bool} {nt : Nat} (h : ∀ t, tok t = true → t < nt) : (Ac3.mk .full tok nt).Ok tok nt := ⟨Adv.refl trivial h, h⟩
def acA (t : Ty) (g : Gr) (node kind : Int) (out : Bool) (x : Ac3) : Nat → Ac3
 | 0 => x
 | i + 1 => if (out || ((i : Int) != node)) = true then (acA t g node kind out x i).cl.add (addB t node kind out i g.nodes) else acA t g node kind out x i
def acB (t : Ty) (g : Gr) (node kind : Int) (out : Bool) (x : Ac3) : Nat → Ac3
 | 0 => x
 | k + 1 => if leafB t k = true then (acB t g node kind out x k).cl2.add (addB t node kind out g.nodes.length (g.nodes ++ [(k : Int)])) else acB t g node kind out x k
theorem acA_ok {t : Ty} {g : Gr} {node kind : Int} {out : Bool} {x : Ac3} {tok : Nat → Bool} {nt : Nat} (h : x.Ok tok nt) : ∀ i, (acA t g node kind out x i).Ok tok nt
 | 0 => h
 | i + 1 => by
  unfold acA
  split
  ·exact ((acA_ok h i).cl).add _
  ·exact acA_ok h i
theorem acB_ok {t : Ty} {g : Gr} {node kind : Int} {out : Bool} {x : Ac3} {tok : Nat → Bool} {nt : Nat} (h : x.Ok tok nt) : ∀ i, (acB t g node kind out x i).Ok tok nt
 | 0 => h
 | i + 1 => by
  unfold acB
  split
  ·exact ((acB_ok h i).cl2).add _
  ·exact acB_ok h i
def lrgX (t : Ty) (g : Gr) (node kind : Int) (out : Bool) (x : Ac3) : Ac3 := acB t g node kind out (acA t g node kind out x g.nodes.length) t.nodes.length
abbrev lgBox (t : Ty) (g : Gr) (node kind : Int) (out : Bool) (L : List Gr) (own : Own) : List (Nat × List (List AV)) :=
 [(11, [[.osl 2 (L.map Gr.cells) own]]), (9, [[B out]]), (8, [[I kind]]), (7, [[I node]]), (6, [[.d (ints g.nodes), .d (AM.edges g.edges)]]), (5, [[.d (nts t.nodes), .d (ets t.edges)]])]
abbrev lgF (nb : Nat) : AV := .fn (.func 111) [.ptr (nb + 8) 0 0, .ptr (nb + 7) 0 0, .ptr (nb + 9) 0 0, .ptr (nb + 5) 0 0, .ptr (nb + 11) 0 0, .ptr (nb + 6) 0 0]
theorem lgF_to {t : Ty} {g : Gr} {node kind : Int} {out : Bool} {L : List Gr} {own : Own} {nb : Nat} {box : Bxs} {q : Nat → Prop} : To (fun k => ¬lb nb box (lgBox t g node kind out L own) k = none) q none (lgF nb) (lgF nb) :=
 .same (.fn (by simp [lb_at, lk]))
def stLa (t : Ty) (g : Gr) (node kind : Int) (out : Bool) (nb : Nat) (box : Bxs) (i : Nat) (L : List Gr) (x : Ac3) : AState :=
 ⟨tl [(19, I i), (18, I g.nodes.length), (17, .d (ints g.nodes)), (12, lgF nb), (11, .ptr (nb + 11) 0 0), (9, .ptr (nb + 9) 0 0), (7, .ptr (nb + 7) 0 0), (6, .ptr (nb + 6) 0 0), (5, .ptr (nb + 5) 0 0)],
  lb nb box (lgBox t g node kind out L x.own), x.tok, x.nt⟩
def stLb (t : Ty) (g : Gr) (node kind : Int) (out : Bool) (nb : Nat) (box : Bxs) (k : Nat) (L : List Gr) (x : Ac3) : AState :=
 ⟨tl [(38, I k), (37, I t.nodes.length), (12, lgF nb), (11, .ptr (nb + 11) 0 0), (6, .ptr (nb + 6) 0 0), (5, .ptr (nb + 5) 0 0)],
  lb nb box (lgBox t g node kind out L x.own), x.tok, x.nt⟩
theorem larger_c (t : Ty) (ht : t.Fit) (g : Gr) (hg : g.Fit) (hgn : g.nodes.length ≤ 1000) (node kind : Int) (out : Bool) (hn : 0 ≤ node ∧ node < g.nodes.length) (tok : Tks) (nt : Nat) :
  DCall Tryz.prog 56 [t.av, g.av, I node, I kind, B out] tok nt (.osl 2 ((lrgL t g node kind out).map Gr.cells) (lrgX t g node kind out ⟨.full, tok, nt⟩).own) (lrgX t g node kind out ⟨.full, tok, nt⟩).tok (lrgX t g node kind out ⟨.full, tok, nt⟩).nt := by
 intro box nb
 have htn := ht.n
 refine sB Tryz.func56 Tryz.ntmps56 ?_
 intro hbox htok
 simp only at hbox htok
 apply AL.start
 have hx0 := Ac3.Ok.start htok
 try (simp)
 repeat (refine sR ?_; simp)
 refine sN ?_
 refine AL.loopT (fun i => stLa t g node kind out nb box i (flatN (lrA t g node kind out) i) (acA t g node kind out ⟨.full, tok, nt⟩ i)) (fun i => i ≤ g.nodes.length) (fun i => g.nodes.length - i) 0 (Nat.zero_le _) (Weaks.mk (Nat.le_refl _) rfl (by simp [ToL, lk, lb_at, acA, lgF_to]) (by simp [BoxL, lk, acA, flatN])) ?_
 rintro i S' hi hS
 simp only [stLa] at hS
 subst hS
 have hx := acA_ok (t := t) (g := g) (node := node) (kind := kind) (out := out) hx0 i
 have hlen := flatN_len (lrA_len t g node kind out) i
 have hstL : flatN (lrA t g node kind out) (i + 1) = flatN (lrA t g node kind out) i ++ lrA t g node kind out i := rfl
 have hstX : acA t g node kind out ⟨.full, tok, nt⟩ (i + 1) = if (out || ((i : Int) != node)) = true then (acA t g node kind out ⟨.full, tok, nt⟩ i).cl.add (addB t node kind out i g.nodes) else acA t g node kind out ⟨.full, tok, nt⟩ i := rfl
 have hlA : lrA t g node kind out i = if (out || ((i : Int) != node)) = true then addL t g node kind out i g.nodes else [] := rfl
 have hw := sW (i := i) (by omega)
 try (simp)
 repeat (refine sR ?_; simp)
 refine sC ?_
 simp
 refine ⟨fun hlt => ?_, fun hge => ?_⟩
 ·generalize hX2 : acA t g node kind out ⟨.full, tok, nt⟩ (i + 1) = x2 at *
  generalize acA t g node kind out ⟨.full, tok, nt⟩ i = x at *
  generalize hL2 : flatN (lrA t g node kind out) (i + 1) = L2 at *
  generalize flatN (lrA t g node kind out) i = L at *
  generalize lrA t g node kind out i = A at *
  have hxl := hx.adv.live
  cases hc : (out || ((i : Int) != node))
  ·rw [hc, if_neg (by simp)] at hstX hlA
   simp only [Bool.or_eq_false_iff] at hc
   obtain ⟨rfl, hc2⟩ := hc
   rw [hlA, List.append_nil] at hstL
   try (simp [hc2])
   repeat (refine sR ?_; simp [hc2])
   refine sC ?_
   simp [hc2]
   try (simp [hw])
   repeat (refine sR ?_; simp [hw])
   refine sE ?_
   refine ⟨i + 1, hlt, by omega, ?_⟩
   rw [hX2, hL2, hstL, hstX]
   exact Weaks.mk (by have := hx.adv.le; omega) rfl (by simp [ToL, lk, lb_at, lgF_to]) (by simp [BoxL, lk])
  ·rw [hc, if_pos rfl] at hstX hlA
   have hl1 := fun (b : Bxs) q1 q2 q3 q4 q5 q6 => larger1_c t ht g hg node kind out i g.nodes L x.own ⟨hn.1, hn.2⟩ ⟨by omega, by omega⟩ (by omega) b (nb + 57) (nb + 7) (nb + 8) (nb + 9) (nb + 5) (nb + 11) (nb + 6) x.cl.tok x.cl.nt hx.cl.adv.live q1 q2 q3 q4 q5 q6
   have hcond : out = true ∨ out = false ∧ ((i : Int) != node) = true := by
    cases out
    ·exact .inr ⟨rfl, hc⟩
    ·exact .inl rfl
   clear hc
   rcases hcond with rfl | ⟨rfl, hc⟩
   ·try (simp)
    repeat (refine sR ?_; simp)
    refine sC ?_
    simp
    try (simp)
    repeat (refine sR ?_; simp)
    refine Stop.of_d (clone_c g.nodes hg.n _ _) ?_
    simp
    refine Stop.data ?_
    refine Stop.of_a (hl1 _ (by simp [lb_at, lk]) (by simp [lb_at, lk]) (by simp [lb_at, lk]) (by simp [lb_at, lk]) (by simp [lb_at, lk]) (by simp [lb_at, lk])) ?_
    rintro v m' ⟨rfl, rfl⟩
    simp only [FOps_nil]
    generalize hY : Ac3.add ⟨x.own, x.cl.tok, x.cl.nt⟩ (addB t node kind true i g.nodes) = y
    have hy : y.Ok tok nt := by rw [← hY]; exact hx.cl.add _
    have hxy : x2 = y := by rw [hstX, ← hY]; rfl
    try (simp [hw])
    repeat (refine sR ?_; simp [hw])
    refine sE ?_
    refine ⟨i + 1, hlt, by omega, ?_⟩
    rw [hX2, hL2, hstL, hlA, hxy]
    exact Weaks.mk (by have := hy.adv.le; omega) rfl (by simp [ToL, lk, lb_at, lgF_to]) (by simp [BoxL, lk])
   ·try (simp [hc])
    repeat (refine sR ?_; simp [hc])
    refine sC ?_
    simp [hc]
    try (simp)
    repeat (refine sR ?_; simp)
    refine Stop.of_d (clone_c g.nodes hg.n _ _) ?_
    simp
    refine Stop.data ?_
    refine Stop.of_a (hl1 _ (by simp [lb_at, lk]) (by simp [lb_at, lk]) (by simp [lb_at, lk]) (by simp [lb_at, lk]) (by simp [lb_at, lk]) (by simp [lb_at, lk])) ?_
    rintro v m' ⟨rfl, rfl⟩
    simp only [FOps_nil]
    generalize hY : Ac3.add ⟨x.own, x.cl.tok, x.cl.nt⟩ (addB t node kind false i g.nodes) = y
    have hy : y.Ok tok nt := by rw [← hY]; exact hx.cl.add _
    have hxy : x2 = y := by rw [hstX, ← hY]; rfl
    try (simp [hw])
    repeat (refine sR ?_; simp [hw])
    refine sE ?_
    refine ⟨i + 1, hlt, by omega, ?_⟩
    rw [hX2, hL2, hstL, hlA, hxy]
    exact Weaks.mk (by have := hy.adv.le; omega) rfl (by simp [ToL, lk, lb_at, lgF_to]) (by simp [BoxL, lk])
 ·refine sX ?_
  simp only [AU, ↓reduceIte]
  have : i = g.nodes.length := by omega
  subst this
  have hlrg : lrgX t g node kind out ⟨.full, tok, nt⟩ = acB t g node kind out (acA t g node kind out ⟨.full, tok, nt⟩ g.nodes.length) t.nodes.length := rfl
  have hlrl : lrgL t g node kind out = flatN (lrA t g node kind out) g.nodes.length ++ flatN (lrB t g node kind out) t.nodes.length := rfl
  rw [hlrg, hlrl]
  clear hstL hstX hlA hlrg hlrl hw
  generalize acA t g node kind out ⟨.full, tok, nt⟩ g.nodes.length = x at *
  generalize flatN (lrA t g node kind out) g.nodes.length = L at *
  try (simp)
  repeat (refine sR ?_; simp)
  refine sN ?_
  refine AL.loopT (fun k => stLb t g node kind out nb box k (L ++ flatN (lrB t g node kind out) k) (acB t g node kind out x k)) (fun k => k ≤ t.nodes.length) (fun k => t.nodes.length - k) 0 (Nat.zero_le _) (Weaks.mk (by have := hx.adv.le; omega) rfl (by simp [ToL, lk, lb_at, acB, lgF_to]) (by simp [BoxL, lk, acB, flatN])) ?_
  rintro k S' hk hS
  simp only [stLb] at hS
  subst hS
  have hxk := acB_ok (t := t) (g := g) (node := node) (kind := kind) (out := out) hx k
  have hlk := flatN_len (lrB_len t g node kind out) k
  have hstL : flatN (lrB t g node kind out) (k + 1) = flatN (lrB t g node kind out) k ++ lrB t g node kind out k := rfl
  have hstX : acB t g node kind out x (k + 1) = if leafB t k = true then (acB t g node kind out x k).cl2.add (addB t node kind out g.nodes.length (g.nodes ++ [(k : Int)])) else acB t g node kind out x k := rfl
  have hlA : lrB t g node kind out k = if leafB t k = true then addL t g node kind out g.nodes.length (g.nodes ++ [(k : Int)]) else [] := rfl
  have hw := sW (i := k) (by omega)
  try (simp)
  repeat (refine sR ?_; simp)
  refine sC ?_
  simp
  refine ⟨fun hlt => ?_, fun hge => ?_⟩
  ·generalize hX2 : acB t g node kind out x (k + 1) = x2 at *
   generalize acB t g node kind out x k = y at *
   generalize hL2 : flatN (lrB t g node kind out) (k + 1) = L2 at *
   generalize flatN (lrB t g node kind out) k = M at *
   generalize lrB t g node kind out k = A at *
   have hc := leaf_c t (by omega) k
   try (simp)
   repeat (refine sR ?_; simp)
   refine Stop.of_d (hc _ _) ?_
   simp
   cases e1 : leafB t k
   ·rw [e1, if_neg (by simp)] at hstX hlA
    try (simp)
    repeat (refine sR ?_; simp)
    refine sC ?_
    simp
    try (simp [hw])
    repeat (refine sR ?_; simp [hw])
    refine sE ?_
    refine ⟨k + 1, hlt, by omega, ?_⟩
    rw [hX2, hL2, hstL, hstX, hlA]
    exact Weaks.mk (by have := hxk.adv.le; omega) rfl (by simp [ToL, lk, lb_at, lgF_to]) (by simp [BoxL, lk])
   ·rw [e1, if_pos rfl] at hstX hlA
    have hl1 := fun (b : Bxs) q1 q2 q3 q4 q5 q6 => larger1_c t ht g hg node kind out g.nodes.length (g.nodes ++ [(k : Int)]) (L ++ M) y.own ⟨hn.1, by simp; omega⟩ ⟨by omega, by simp; omega⟩ (by simp; omega) b (nb + 57) (nb + 7) (nb + 8) (nb + 9) (nb + 5) (nb + 11) (nb + 6) y.cl2.tok y.cl2.nt hxk.cl2.adv.live q1 q2 q3 q4 q5 q6
    try (simp)
    repeat (refine sR ?_; simp)
    refine sC ?_
    simp
    refine sN ?_
    refine AL.splitL (by rfl) (by rfl) follows_Tryz (Nat.le_refl _) (by kernel_rfl) ?_
    simp
    refine Stop.of_d (clone_c g.nodes hg.n _ _) ?_
    simp
    refine ⟨⟨by omega, upd_same _ _ _⟩, ?_⟩
    rw [show rI g.nodes ++ [[D.raw (.int .i64 (k : Int))]] = rI (g.nodes ++ [(k : Int)]) by simp [rI]]
    refine Stop.data ?_
    refine Stop.of_a (hl1 _ (by simp [lb_at, lk]) (by simp [lb_at, lk]) (by simp [lb_at, lk]) (by simp [lb_at, lk]) (by simp [lb_at, lk]) (by simp [lb_at, lk])) ?_
    rintro v m' ⟨rfl, rfl⟩
    simp only [FOps_nil]
    generalize hY : Ac3.add ⟨y.own, y.cl2.tok, y.cl2.nt⟩ (addB t node kind out g.nodes.length (g.nodes ++ [(k : Int)])) = z
    have hz : z.Ok tok nt := by rw [← hY]; exact hxk.cl2.add _
    have hxz : x2 = z := by rw [hstX, ← hY]; rfl
    try (simp [hw])
    repeat (refine sR ?_; simp [hw])
    refine sE ?_
    refine ⟨k + 1, hlt, by omega, ?_⟩
    rw [hX2, hL2, hstL, hlA, hxz]
    exact Weaks.mk (by have := hz.adv.le; omega) rfl (by simp [ToL, lk, lb_at, lgF_to]) (by simp [BoxL, lk])
  ·refine sX ?_
   simp only [AU, ↓reduceIte]
   have : k = t.nodes.length := by omega
   subst this
   generalize acB t g node kind out x t.nodes.length = y at *
   try (simp)
   repeat (refine sR ?_; simp)
   refine sN ?_
   refine AL.ret ?_
   try simp only [AU]
   refine ⟨by simp, Fin.own (by simp [resAs, resA]; rfl) hbox rfl hxk.adv.le ?_⟩
   simp [packA]
end Go.AM
namespace Go.AM
open Go Go.Proofs
theorem TK.adv {mtok : Nat → Bool} {nt0 : Nat} {tok tok' : Nat → Bool} {nt nt' : Nat} {os : List Own} {own' : Own} (h : TK mtok nt0 tok nt os) (ha : Adv tok nt .full tok' nt' own') : TK mtok nt0 tok' nt' (own' :: os) := by
 have hnew : ∀ s, own' = .tok s → nt ≤ s ∧ tok' s = true := fun s e => by
  have hl := ha.live
  rw [e] at hl
  rcases ha.new with e2 | ⟨s2, e2, hs⟩
  ·rw [e] at e2; cases e2
  ·rw [e] at e2; cases e2; exact ⟨hs, hl⟩
 refine ⟨fun t ht => ha.keep t (h.old t ht) (by simp), h.lt, Nat.le_trans h.le ha.le, fun o ho t e => ?_, ?_⟩
 ·rcases List.mem_cons.1 ho with rfl | ho
  ·obtain ⟨h1, h2⟩ := hnew t e
   exact ⟨h2, Nat.le_trans h.le h1, ha.lt t h2⟩
  ·obtain ⟨h1, h2, h3⟩ := h.own o ho t e
   exact ⟨ha.keep t h1 (by simp), h2, Nat.lt_of_lt_of_le h3 ha.le⟩
 ·refine List.pairwise_cons.2 ⟨fun b hb t e e2 => ?_, h.ne⟩
  obtain ⟨h1, h2⟩ := hnew t e
  obtain ⟨_, _, h3⟩ := h.own b hb t e2
  omega
def exX (g x : Gr) : Cd := cdOf 2 [.mk 5 [cdOf 1 []] (idM g) x [] 0 []]
def appE (t : Ty) (g : Gr) (i k : Nat) : List Gr := lrgL t g i k true ++ lrgL t g i k false
def appI (t : Ty) (g : Gr) (keep : List Int) (i : Nat) : List Gr := if (i : Int) ∈ keep then [] else flatN (appE t g i) t.edges.length
def appL (t : Ty) (r : Ru) : List Gr := flatN (appI t r.lg r.k.nodes) r.lg.nodes.length
def appC (t : Ty) (r : Ru) : Cd := cdOf 3 ((appL t r).map (exX r.lg))
def badG (x : Gr) : Bool := validG x != 0
def appR (t : Ty) (r : Ru) : Cd × Int :=
 if tpdE t r ≠ 0 then (cdOf 0 [], tpdE t r) else if anyB badG (appL t r) = true then (cdOf 0 [], 3) else if (appL t r).length = 0 then (cdOf 1 [], 0)
 else if validC r.lg (appC t r) ≠ 0 then (cdOf 0 [], validC r.lg (appC t r)) else (appC t r, 0)
theorem tpdE_zero {t : Ty} {r : Ru} (h : tpdE t r = 0) : tyE t = 0 ∧ strR r = 0 ∧ tpB t r = 0 := by
 unfold tpdE at h
 split at h
 ·contradiction
 ·rename_i h1
  split at h
  ·contradiction
  ·rename_i h2
   exact ⟨Decidable.not_not.1 h1, Decidable.not_not.1 h2, h⟩
theorem mem_flatN {α : Type} {f : Nat → List α} {x : α} : ∀ {n : Nat}, x ∈ flatN f n ↔ ∃ i, i < n ∧ x ∈ f i
 | 0 => by simp [flatN]
 | n + 1 => by
  rw [flatN, List.mem_append, mem_flatN]
  constructor
  ·rintro (⟨i, hi, hx⟩ | hx)
   ·exact ⟨i, by omega, hx⟩
   ·exact ⟨n, by omega, hx⟩
  ·rintro ⟨i, hi, hx⟩
   by_cases e : i = n
   ·subst e; exact .inr hx
   ·exact .inl ⟨i, by omega, hx⟩
theorem lrgX_ok (t : Ty) (g : Gr) (node kind : Int) (out : Bool) {tok : Nat → Bool} {nt : Nat} (h : ∀ t, tok t = true → t < nt) : (lrgX t g node kind out ⟨.full, tok, nt⟩).Ok tok nt := acB_ok (acA_ok (Ac3.Ok.start h) _) _
theorem lt_app {tok : Nat → Bool} {nt : Nat} (o : Own) (h : ∀ t, tok t = true → t < nt) : ∀ t, upd (o.kill tok) nt true t = true → t < nt + 1 := by
 intro t ht
 unfold upd at ht
 split at ht
 ·omega
 ·cases o with
  | full => have := h t ht; omega
  | tok s =>
   simp only [kill_tok, upd] at ht
   split at ht
   ·cases ht
   ·have := h t ht; omega
theorem lrgL_len (t : Ty) (g : Gr) (node kind : Int) (out : Bool) : (lrgL t g node kind out).length ≤ g.nodes.length + t.nodes.length := by
 have h1 := flatN_len (lrA_len t g node kind out) g.nodes.length
 have h2 := flatN_len (lrB_len t g node kind out) t.nodes.length
 rw [lrgL, List.length_append]
 omega
theorem flatN_le {α : Type} {f : Nat → List α} {M : Nat} (h : ∀ i, (f i).length ≤ M) : ∀ n, (flatN f n).length ≤ n * M
 | 0 => by simp [flatN]
 | n + 1 => by
  have := flatN_le h n
  have := h n
  simp only [flatN, List.length_append]
  rw [Nat.add_mul, Nat.one_mul]
  omega
theorem tyE_small {t : Ty} (h : tyE t = 0) : t.nodes.length ≤ 12 ∧ t.edges.length ≤ 20 := by
 unfold tyE at h
 split at h
 ·cases h
 ·split at h
  ·cases h
  ·split at h
   ·cases h
   ·omega
theorem appE_len {t : Ty} {g : Gr} (hn : g.nodes.length ≤ 40) (ht : t.nodes.length ≤ 12) (i k : Nat) : (appE t g i k).length ≤ 104 := by
 have h1 := lrgL_len t g i k true
 have h2 := lrgL_len t g i k false
 rw [appE, List.length_append]
 omega
theorem appI_len {t : Ty} {g : Gr} (hn : g.nodes.length ≤ 40) (ht : t.nodes.length ≤ 12) (he : t.edges.length ≤ 20) (keep : List Int) (i : Nat) : (appI t g keep i).length ≤ 2080 := by
 unfold appI
 split
 ·simp
 ·have := flatN_le (f := appE t g i) (fun k => appE_len hn ht i k) t.edges.length
  have : t.edges.length * 104 ≤ 20 * 104 := Nat.mul_le_mul_right _ he
  omega
theorem mem_lrgL {t : Ty} {g : Gr} {node kind : Int} {out : Bool} {x : Gr} (h : x ∈ lrgL t g node kind out) : (∃ w, x.nodes = g.nodes ++ w ∧ w.length ≤ 1) ∧ ∃ e, x.edges = g.edges ++ [e] := by
 have ha : ∀ other nodes, x ∈ addL t g node kind out other nodes → x.nodes = nodes ∧ ∃ e, x.edges = g.edges ++ [e] := fun other nodes h => by
  unfold addL at h
  split at h
  ·rw [List.mem_singleton] at h; subst h; exact ⟨rfl, _, rfl⟩
  ·cases h
 rcases List.mem_append.1 h with h | h
 ·obtain ⟨i, _, h⟩ := mem_flatN.1 h
  unfold lrA at h
  split at h
  ·obtain ⟨h1, h2⟩ := ha _ _ h
   exact ⟨⟨[], by simpa using h1, by simp⟩, h2⟩
  ·cases h
 ·obtain ⟨i, _, h⟩ := mem_flatN.1 h
  unfold lrB at h
  split at h
  ·obtain ⟨h1, h2⟩ := ha _ _ h
   exact ⟨⟨_, h1, by simp⟩, h2⟩
  ·cases h
theorem mem_appE {t : Ty} {g : Gr} {i k : Nat} {x : Gr} (h : x ∈ appE t g i k) : (∃ w, x.nodes = g.nodes ++ w ∧ w.length ≤ 1) ∧ ∃ e, x.edges = g.edges ++ [e] := by
 rcases List.mem_append.1 h with h | h
 ·exact mem_lrgL h
 ·exact mem_lrgL h
theorem appE_fit {t : Ty} {g : Gr} (hn : g.nodes.length ≤ 40) (he : g.edges.length ≤ 80) {i k : Nat} {x : Gr} (h : x ∈ appE t g i k) : x.Fit := by
 obtain ⟨⟨w, h1, h2⟩, e, h3⟩ := mem_appE h
 refine ⟨?_, ?_⟩
 ·rw [h1, List.length_append]; omega
 ·rw [h3, List.length_append]; simp; omega
def okL (L : List Gr) : Bool := !anyB badG L
theorem okL_iff {L : List Gr} : okL L = true ↔ ∀ x ∈ L, badG x = false := by simp [okL, anyB]
theorem okL_add {L A : List Gr} {j : Nat} (hj : j < A.length) (h : okL (L ++ A.take j) = true) (h2 : badG A[j] = false) : okL (L ++ A.take (j + 1)) = true := by
 rw [okL_iff] at h ⊢
 intro x hx
 rw [List.take_succ_eq_append_getElem hj, ← List.append_assoc] at hx
 rcases List.mem_append.1 hx with hx | hx
 ·exact h x hx
 ·rw [List.mem_singleton.1 hx]; exact h2
abbrev apBox (t : Ty) (r : Ru) (K : List Cd) (own : Own) : List (Nat × List (List AV)) :=
 [(10, [[I 3, .osl 9 (K.map Cd.cells) own, nilS, nilS, nilS, nilS, nilS, z0i, nilS]]), (8, [[.d (ints (idM r.lg).nodes), .d (ints (idM r.lg).edges)]]), (7, [[.d (ints r.lg.nodes), .d (AM.edges r.lg.edges)]]), (4, [[z0i, nilS, nilS, nilS, nilS, nilS, nilS, z0i, nilS]]), (3, [r.row]), (2, [[.d (nts t.nodes), .d (ets t.edges)]])]
abbrev apS (r : Ru) (nb i : Nat) : List (Nat × AV) := [(40, I i), (39, I r.lg.nodes.length), (38, .d (ints r.lg.nodes)), (10, .ptr (nb + 10) 0 0), (8, .ptr (nb + 8) 0 0), (7, .ptr (nb + 7) 0 0), (4, .ptr (nb + 4) 0 0), (3, .ptr (nb + 3) 0 0), (2, .ptr (nb + 2) 0 0)]
structure Ix where
 i : Nat
 x : Ac3
def stA1 (t : Ty) (r : Ru) (nb : Nat) (box : Bxs) (i : Nat) (L : List Gr) (x : Ac3) : AState := ⟨tl (apS r nb i), lb nb box (apBox t r (L.map (exX r.lg)) x.own), x.tok, x.nt⟩
def stA2 (t : Ty) (r : Ru) (i : Nat) (nb : Nat) (box : Bxs) (k : Nat) (L : List Gr) (x : Ac3) : AState := ⟨tl ((51, I k) :: (50, I t.edges.length) :: (11, I i) :: apS r nb i), lb nb box (apBox t r (L.map (exX r.lg)) x.own), x.tok, x.nt⟩
def stA3 (t : Ty) (r : Ru) (i k : Nat) (A : List Gr) (nb : Nat) (box : Bxs) (j : Nat) (L : List Gr) (x : Ac3) : AState := ⟨tl ((66, I j) :: (65, I A.length) :: (64, .d (grs A)) :: (51, I k) :: (50, I t.edges.length) :: (11, I i) :: apS r nb i), lb nb box (apBox t r (L.map (exX r.lg)) x.own), x.tok, x.nt⟩
theorem exX_fit {g x : Gr} (hg : g.Fit) (hx : x.Fit) : (exX g x).Fit := by
 have h1 : (cdOf 1 []).Fit := cdOf_fit (by rw [kidN_eq]; simp) (by simp)
 refine cdOf_fit (by rw [kidN_eq]; simp) fun y hy => ?_
 rw [List.mem_singleton] at hy
 subst hy
 exact .mk (by rw [kidN_eq]; simp [Cd.kids]) ⟨by simpa [Cd.m, idM] using hg.n, by simpa [Cd.m, idM] using hg.e⟩ (by simpa [Cd.g] using hx) (by rw [bigN_eq]; simp [Cd.sl]) (by rw [bigN_eq]; simp [Cd.te]) (by simpa [Cd.kids] using h1)
theorem appC_fit {t : Ty} {r : Ru} (hn : r.lg.nodes.length ≤ 40) (he : r.lg.edges.length ≤ 80) (hl : (appL t r).length ≤ 83200) : (appC t r).Fit := by
 refine cdOf_fit (by rw [kidN_eq]; simp; omega) fun y hy => ?_
 obtain ⟨x, hx, rfl⟩ := List.mem_map.1 hy
 obtain ⟨i, _, h1⟩ := mem_flatN.1 hx
 unfold appI at h1
 split at h1
 ·cases h1
 ·obtain ⟨k, _, h2⟩ := mem_flatN.1 h1
  exact exX_fit ⟨by omega, by omega⟩ (appE_fit hn he h2)
set_option maxRecDepth 100000 in
theorem applicable_c (t : Ty) (ht : t.Fit) (r : Ru) (hr : r.Fit) (tok : Tks) (nt : Nat) : DCall Tryz.prog 19 [t.av, r.av] tok nt (.tup [(appR t r).1.av, I (appR t r).2]) tok nt := by
 intro box nb
 have htn := ht.n
 have h1 := typed_c t ht r hr
 have hz := @tpdE_zero t r
 obtain ⟨N, hN⟩ : ∃ N, appR t r = N := ⟨_, rfl⟩
 rw [hN]
 unfold appR at hN
 generalize tpdE t r = E at *
 refine sB Tryz.func19 Tryz.ntmps19 ?_
 intro hbox htok
 simp only at hbox htok
 apply AL.start
 try (simp)
 repeat (refine sR ?_; simp)
 refine Stop.of_d (h1 _ _) ?_
 simp
 try (simp)
 repeat (refine sR ?_; simp)
 by_cases e1 : E = 0
 ·rw [if_neg (by simp [e1])] at hN
  obtain ⟨z1, z2, z3⟩ := hz e1
  obtain ⟨v1, v2⟩ := strR_valid z2
  have hid := identity_c r.lg hr.lg v1
  refine sC ?_
  simp [e1]
  try (simp)
  repeat (refine sR ?_; simp)
  refine Stop.of_d (hid _ _) ?_
  simp
  try (simp)
  repeat (refine sR ?_; simp)
  refine sC ?_
  simp
  try (simp)
  repeat (refine sR ?_; simp)
  refine sN ?_
  have hsm := tyE_small z1
  have hnn : r.lg.nodes.length ≤ 40 := (validG_types v1).1.1
  have hee : r.lg.edges.length ≤ 80 := (validG_types v1).1.2
  refine AL.loopT (fun y : Ix => stA1 t r nb box y.i (flatN (appI t r.lg r.k.nodes) y.i) y.x) (fun y => y.i ≤ r.lg.nodes.length ∧ okL (flatN (appI t r.lg r.k.nodes) y.i) = true ∧ TK tok nt y.x.tok y.x.nt [y.x.own] ∧ ∀ t, y.x.tok t = true → t < y.x.nt) (fun y => r.lg.nodes.length - y.i) ⟨0, ⟨.full, tok, nt⟩⟩ ⟨Nat.zero_le _, rfl, (TK.start htok).full, htok⟩ (Weaks.mk (Nat.le_refl _) rfl (by simp [ToL, lk, lb_at]) (by simp [BoxL, lk, flatN])) ?_
  rintro ⟨i, x⟩ S' ⟨hi, hok, htk, hlt0⟩ hS
  simp only [stA1] at hS hi hok htk hlt0
  subst hS
  have hw := sW (i := i) (by omega)
  try (simp)
  repeat (refine sR ?_; simp)
  refine sC ?_
  simp
  refine ⟨fun hlt => ?_, fun hge => ?_⟩
  ·have hcn := contains_c r.k.nodes i hr.k.n
   have hst : flatN (appI t r.lg r.k.nodes) (i + 1) = flatN (appI t r.lg r.k.nodes) i ++ appI t r.lg r.k.nodes i := rfl
   have hLl : (flatN (appI t r.lg r.k.nodes) i).length ≤ 83200 := by
    have h1 := flatN_le (f := appI t r.lg r.k.nodes) (fun k => appI_len hnn hsm.1 hsm.2 _ k) i
    have h2 : i * 2080 ≤ 40 * 2080 := Nat.mul_le_mul_right _ (by omega)
    omega
   generalize hL2 : flatN (appI t r.lg r.k.nodes) (i + 1) = L2 at *
   generalize flatN (appI t r.lg r.k.nodes) i = L at *
   try (simp [hlt])
   repeat (refine sR ?_; simp [hlt])
   refine Stop.of_d (hcn _ _) ?_
   simp
   by_cases hm : (i : Int) ∈ r.k.nodes
   ·have hI : appI t r.lg r.k.nodes i = [] := if_pos hm
    rw [hI, List.append_nil] at hst
    refine sC ?_
    simp [hm]
    refine sX ?_
    simp only [AU, ↓reduceIte]
    try (simp [hw])
    repeat (refine sR ?_; simp [hw])
    refine sE ?_
    refine ⟨⟨i + 1, x⟩, ⟨hlt, ?_, htk, hlt0⟩, by simp only; omega, ?_⟩
    ·simp only [hL2, hst, hok]
    ·simp only [hL2, hst]
     exact Weaks.mk htk.le rfl (by simp [ToL, lk, lb_at]) (by simp [BoxL, lk])
   ·have hI : appI t r.lg r.k.nodes i = flatN (appE t r.lg i) t.edges.length := if_neg hm
    rw [hI] at hst
    have hbadI : ∀ k y, k < t.edges.length → y ∈ appE t r.lg i k → badG y = true → anyB badG (appL t r) = true := fun k y hk hy hb => List.any_eq_true.2 ⟨y, mem_flatN.2 ⟨i, hlt, by rw [hI]; exact mem_flatN.2 ⟨k, hk, hy⟩⟩, hb⟩
    refine sC ?_
    simp [hm]
    try (simp)
    repeat (refine sR ?_; simp)
    refine sN ?_
    refine AL.loopT (fun y : Ix => stA2 t r i nb box y.i (L ++ flatN (appE t r.lg i) y.i) y.x) (fun y => y.i ≤ t.edges.length ∧ okL (L ++ flatN (appE t r.lg i) y.i) = true ∧ TK tok nt y.x.tok y.x.nt [y.x.own] ∧ ∀ t, y.x.tok t = true → t < y.x.nt) (fun y => t.edges.length - y.i) ⟨0, x⟩ ⟨Nat.zero_le _, by simpa [flatN] using hok, htk, hlt0⟩ (Weaks.mk htk.le rfl (by simp [ToL, lk, lb_at, flatN]) (by simp [BoxL, lk, flatN])) ?_
    clear htk hlt0 hok
    rintro ⟨k, x⟩ S' ⟨hk, hok, htk, hlt0⟩ hS
    simp only [stA2] at hS hk hok htk hlt0
    subst hS
    obtain ⟨M, hM⟩ : ∃ M, L ++ flatN (appE t r.lg i) k = M := ⟨_, rfl⟩
    rw [hM] at hok ⊢
    have hMl : M.length ≤ 100000 := by
     have h1 := flatN_le (f := appE t r.lg i) (fun k => appE_len hnn hsm.1 i k) k
     have h2 : k * 104 ≤ 20 * 104 := Nat.mul_le_mul_right _ (by omega)
     rw [← hM, List.length_append]
     omega
    have hwk := sW (i := k) (by omega)
    try (simp)
    repeat (refine sR ?_; simp)
    refine sC ?_
    simp
    refine ⟨fun hltk => ?_, fun hgek => ?_⟩
    ·have c1 := larger_c t ht r.lg hr.lg (by omega) i k true ⟨by omega, by omega⟩ x.tok x.nt
     have x1 := lrgX_ok t r.lg i k true hlt0
     generalize hX1 : lrgX t r.lg i k true ⟨.full, x.tok, x.nt⟩ = y1 at *
     have c2 := larger_c t ht r.lg hr.lg (by omega) i k false ⟨by omega, by omega⟩ y1.tok y1.nt
     have x2 := lrgX_ok t r.lg i k false x1.adv.lt
     generalize hX2 : lrgX t r.lg i k false ⟨.full, y1.tok, y1.nt⟩ = y2 at *
     have hstk : L ++ flatN (appE t r.lg i) (k + 1) = M ++ appE t r.lg i k := by rw [← hM, flatN, List.append_assoc]
     have hAe : appE t r.lg i k = lrgL t r.lg i k true ++ lrgL t r.lg i k false := rfl
     have hAl := appE_len hnn hsm.1 i k
     have hbadK := fun y => hbadI k y hltk
     generalize hL3 : L ++ flatN (appE t r.lg i) (k + 1) = L3 at *
     have hAf := fun x (hx : x ∈ appE t r.lg i k) => appE_fit hnn hee hx
     generalize appE t r.lg i k = A at *
     generalize lrgL t r.lg i k true = A1 at *
     generalize lrgL t r.lg i k false = A2 at *
     have hA12 : A1.length + A2.length ≤ 104 := by rw [hAe, List.length_append] at hAl; exact hAl
     have htk1 := htk.adv x1.adv
     have htk2 := (htk1.adv x2.adv).swap
     try (simp)
     repeat (refine sR ?_; simp)
     refine Stop.of_d (c1) ?_
     simp
     refine Stop.of_d (c2) ?_
     simp
     refine ⟨⟨by omega, htk2.live⟩, ?_⟩
     have htk3 := htk2.app.tail.tail
     have hlt3 := lt_app y1.own x2.adv.lt
     generalize hT3 : upd (y1.own.kill y2.tok) y2.nt true = tok3 at *
     rw [← List.map_append, ← hAe]
     have hA3 : (A1.length : Int) + A2.length = (A.length : Nat) := by rw [hAe, List.length_append]; rfl
     simp only [hA3]
     refine sN ?_
     refine AL.loopT (fun y : Ix => stA3 t r i k A nb box y.i (M ++ A.take y.i) y.x) (fun y => y.i ≤ A.length ∧ okL (M ++ A.take y.i) = true ∧ TK tok nt y.x.tok y.x.nt [y.x.own] ∧ ∀ t, y.x.tok t = true → t < y.x.nt) (fun y => A.length - y.i) ⟨0, ⟨x.own, tok3, y2.nt + 1⟩⟩ ⟨Nat.zero_le _, by simpa using hok, htk3, hlt3⟩ (Weaks.mk htk3.le rfl (by simp [ToL, lk, lb_at, To.data]) (by simp [BoxL, lk])) ?_
     clear htk hlt0 hok htk1 htk2 htk3 hlt3 x1 x2 c1 c2
     rintro ⟨j, x⟩ S' ⟨hj, hok, htk, hlt0⟩ hS
     simp only [stA3] at hS hj hok htk hlt0
     subst hS
     obtain ⟨Q, hQ⟩ : ∃ Q, M ++ A.take j = Q := ⟨_, rfl⟩
     rw [hQ] at hok ⊢
     have hQl : Q.length ≤ 200000 := by
      rw [← hQ, List.length_append, List.length_take]
      omega
     have hwj := sW (i := j) (by omega)
     try (simp)
     repeat (refine sR ?_; simp)
     refine sC ?_
     simp
     refine ⟨fun hltj => ?_, fun hgej => ?_⟩
     ·have hmem : A[j] ∈ A := List.getElem_mem hltj
      have hgv := graphValid_c A[j] (hAf _ hmem)
      have hadd := okL_add hltj (by rw [hQ]; exact hok)
      have hbd := hbadK A[j] hmem
      have hstj : M ++ A.take (j + 1) = Q ++ [A[j]] := by rw [List.take_succ_eq_append_getElem hltj, ← List.append_assoc, hQ]
      try (simp [hltj])
      repeat (refine sR ?_; simp [hltj])
      refine Stop.of_d (hgv _ _) ?_
      simp
      try (simp)
      repeat (refine sR ?_; simp)
      by_cases e3 : validG A[j] = 0
      ·have hbf : badG A[j] = false := by simp [badG, e3]
       have hidn : (idM r.lg).nodes.length ≤ 1000000 := by simp [idM]; omega
       have hide : (idM r.lg).edges.length ≤ 1000000 := by simp [idM]; omega
       refine sC ?_
       simp [e3]
       generalize A[j] = a at *
       try (simp)
       repeat (refine sR ?_; simp)
       refine Stop.of_d (clone_c (idM r.lg).nodes hidn _ _) ?_
       simp
       refine Stop.of_d (clone_c (idM r.lg).edges hide _ _) ?_
       simp
       refine Stop.of_d (yes_c _ _) ?_
       simp
       try (simp)
       repeat (refine sR ?_; simp)
       have htk2 := (htk.full.app.full.app).tail.tail
       have hlt2 := lt_app .full (lt_app .full hlt0)
       refine ⟨⟨by omega, htk2.live⟩, ?_⟩
       try (simp [hwj])
       repeat (refine sR ?_; simp [hwj])
       refine sE ?_
       refine ⟨⟨j + 1, ⟨_, _, _⟩⟩, ⟨hltj, hadd hbf, htk2.app, lt_app _ hlt2⟩, by simp only; omega, ?_⟩
       simp only [hstj]
       refine Weaks.mk htk2.app.le rfl (by simp [ToL, lk, lb_at]) ?_
       simp [BoxL, lk]
       refine to_snoc ?_ _
       simp [exX, dsub_one, cdOf, Cd.cells_eq, Cd.kind, Cd.kids, Cd.m, Cd.g, Cd.sl, Cd.vars, Cd.te, slots, tests, conds, ints, AM.edges]
      ·have hbt : badG A[j] = true := by simp [badG, e3]
       have b3 : (validG A[j] != 0) = true := by simp [e3]
       rw [if_pos (hbd hbt)] at hN
       refine sC ?_
       simp [b3]
       try (simp)
       repeat (refine sR ?_; simp)
       refine sT ?_
       try simp only [AU]
       refine ⟨by simp, sF hbox htok htk.old htk.le ?_⟩
       simp [packA, ← hN, cdOf, Cd.kind, Cd.kids, Cd.m, Cd.g, Cd.sl, Cd.vars, Cd.te, conds, ints, AM.edges, slots, tests]
     ·refine sX ?_
      simp only [AU, ↓reduceIte]
      have hjA : j = A.length := by omega
      rw [hjA, List.take_length] at hQ
      try (simp [hwk])
      repeat (refine sR ?_; simp [hwk])
      refine sE ?_
      refine ⟨⟨k + 1, x⟩, ⟨hltk, ?_, htk, hlt0⟩, by simp only; omega, ?_⟩
      ·simp only [hL3, hstk, hQ, hok]
      ·simp only [hL3, hstk, hQ]
       exact Weaks.mk htk.le rfl (by simp [ToL, lk, lb_at]) (by simp [BoxL, lk])
    ·refine sX ?_
     simp only [AU, ↓reduceIte]
     have hkm : k = t.edges.length := by omega
     rw [hkm, ← hst] at hM
     try (simp [hw])
     repeat (refine sR ?_; simp [hw])
     refine sE ?_
     refine ⟨⟨i + 1, x⟩, ⟨hlt, ?_, htk, hlt0⟩, by simp only; omega, ?_⟩
     ·simp only [hL2, hM, hok]
     ·simp only [hL2, hM]
      exact Weaks.mk htk.le rfl (by simp [ToL, lk, lb_at]) (by simp [BoxL, lk])
  ·refine sX ?_
   simp only [AU, ↓reduceIte]
   have hin : i = r.lg.nodes.length := by omega
   have hAL : flatN (appI t r.lg r.k.nodes) i = appL t r := by rw [hin]; rfl
   have hAn : anyB badG (appL t r) = false := by
    rw [hAL] at hok
    simpa [okL] using hok
   have hALl : (appL t r).length ≤ 83200 := by
    have h1 := flatN_le (f := appI t r.lg r.k.nodes) (fun k => appI_len hnn hsm.1 hsm.2 _ k) r.lg.nodes.length
    have h2 : r.lg.nodes.length * 2080 ≤ 40 * 2080 := Nat.mul_le_mul_right _ (by omega)
    rw [appL]
    omega
   rw [hAL]
   rw [if_neg (by rw [hAn]; simp)] at hN
   clear hok
   have hlm : (List.map (exX r.lg) (appL t r)).length = (appL t r).length := List.length_map _
   have hfit : (appC t r).Fit := appC_fit (t := t) hnn hee hALl
   have hvc := validC_c r.lg (appC t r) hr.lg hfit
   have hC : appC t r = cdOf 3 ((appL t r).map (exX r.lg)) := rfl
   rw [hC] at hvc hN
   generalize hKK : (appL t r).map (exX r.lg) = KK at *
   by_cases e4 : (appL t r).length = 0
   ·have e4' : KK = [] := List.length_eq_zero_iff.1 (by rw [hlm]; exact e4)
    rw [if_pos e4] at hN
    try (simp [e4'])
    repeat (refine sR ?_; simp [e4'])
    refine sC ?_
    simp [e4']
    try (simp)
    repeat (refine sR ?_; simp)
    refine Stop.of_d (yes_c _ _) ?_
    simp
    refine sT ?_
    try simp only [AU]
    refine ⟨by simp, sF hbox htok htk.old htk.le ?_⟩
    simp [packA, ← hN, cdOf, Cd.kind, Cd.kids, Cd.m, Cd.g, Cd.sl, Cd.vars, Cd.te, conds, ints, AM.edges, slots, tests]
   ·have e4' : ¬ KK = [] := fun h => e4 (by rw [← hlm, h]; rfl)
    rw [if_neg e4] at hN
    try (simp [e4'])
    repeat (refine sR ?_; simp [e4'])
    refine sC ?_
    simp [e4']
    try (simp)
    repeat (refine sR ?_; simp)
    refine Stop.sub (args' := [r.lg.av, (cdOf 3 KK).av]) ⟨Sub.refl _, Sub.agg ⟨Sub.refl _, Sub.data _ _ _, Sub.nil _ _ _, Sub.nil _ _ _, Sub.nil _ _ _, Sub.nil _ _ _, Sub.nil _ _ _, Sub.refl _, Sub.nil _ _ _, trivial⟩, trivial⟩ ?_
    refine Stop.of_d (hvc _ _) ?_
    try (simp)
    repeat (refine sR ?_; simp)
    generalize validC r.lg (cdOf 3 KK) = V at *
    by_cases e5 : V = 0
    ·rw [if_neg (by simp [e5])] at hN
     refine sC ?_
     simp [e5]
     try (simp)
     repeat (refine sR ?_; simp)
     refine sT ?_
     try simp only [AU]
     refine ⟨by simp, sF hbox htok htk.old htk.le ?_⟩
     simp [packA, ← hN, cdOf, Cd.kind, Cd.kids, Cd.m, Cd.g, Cd.sl, Cd.vars, Cd.te, conds, ints, AM.edges, slots, tests]
    ·rw [if_pos e5] at hN
     have b5 : (V != 0) = true := by simp [e5]
     refine sC ?_
     simp [b5]
     try (simp)
     repeat (refine sR ?_; simp)
     refine sT ?_
     try simp only [AU]
     refine ⟨by simp, sF hbox htok htk.old htk.le ?_⟩
     simp [packA, ← hN, cdOf, Cd.kind, Cd.kids, Cd.m, Cd.g, Cd.sl, Cd.vars, Cd.te, conds, ints, AM.edges, slots, tests]
 ·rw [if_pos e1] at hN
  have b1 : (E != 0) = true := by simp [e1]
  refine sC ?_
  simp [b1]
  try (simp)
  repeat (refine sR ?_; simp)
  refine sT ?_
  try simp only [AU]
  refine ⟨by simp, sF hbox htok (fun _ h => h) (Nat.le_refl _) ?_⟩
  simp [packA, ← hN, cdOf, Cd.kind, Cd.kids, Cd.m, Cd.g, Cd.sl, Cd.vars, Cd.te, conds, ints, AM.edges, slots, tests]
end Go.AM
namespace Go.AM
open Go Go.Proofs
def Ac3.ed (x : Ac3) (s : Nat) : Ac3 := ⟨.tok (x.nt + 1), upd (x.own.kill (upd (upd x.tok s false) x.nt true)) (x.nt + 1) true, x.nt + 2⟩
def Ac3.nd (x : Ac3) (s : Nat) : Ac3 := ⟨x.own, upd (upd x.tok s false) x.nt true, x.nt + 1⟩
end Go.AM
namespace Go.AM
open Go Go.Proofs
end Go.AM
namespace Go.AM
open Go Go.Proofs
end Go.AM
namespace Go.AM
open Go Go.Proofs
def zr (n : Nat) : Gr := ⟨List.replicate n 0, []⟩
def dropR : Ru := ⟨eB, zr 2, [], 0, [], zr 1, [], 0, [], ⟨[0], []⟩, ⟨[0], []⟩, true, cdOf 0 []⟩
def awC : Cd := .mk 5 [cdOf 1 []] ⟨[0], []⟩ (zr 2) [] 0 []
def awT : Ty := ⟨[⟨⟨#[65]⟩, -1, false, []⟩], [⟨⟨#[101]⟩, 0, 0, 0, -1, 0, -1⟩]⟩
theorem aw_left : (leftR dropR awC).2 = 0 ∧ (leftR dropR awC).1.kind = 5 ∧ (leftR dropR awC).1.g.nodes.length = 3 := by decide +kernel
theorem aw_app : (appR awT dropR).2 = 0 ∧ (appR awT dropR).1.kind = 3 ∧ (appR awT dropR).1.kids.length = 5 := by decide +kernel
theorem to_frz0 {p q : Nat → Prop} {k n : Nat} : To p q (some (k, 1, List.replicate n [D.raw (.int .i64 0)])) (.msl k 0 n 1) (.d (ints (List.replicate n 0))) := by
 have h := To.frz (p := p) (q := q) (fz := some (k, 1, List.replicate n [D.raw (.int .i64 0)])) (k := k) (sz := 1) (es := List.replicate n [D.raw (.int .i64 0)]) rfl
 simp [ints] at h ⊢
theorem Sub.ds {sz : Nat} {es : List (List D)} {o : Own} {y : D} (h : DSub (.sl sz es) y) : Sub (.osl sz es o) (.d y) := fun G w v r => by
 cases r.asD with
 | d r1 => exact .d (r1.dsub h)
theorem nodes34_c (n : Nat) (hn : n ≤ 10) (tok : Tks) (nt : Nat) : DCall Tryz.prog 33 [I n] tok nt (zr n).av tok nt := by
 intro box nb
 refine sB Tryz.func33 Tryz.ntmps33 ?_
 intro hbox htok
 simp only at hbox htok
 apply AL.start
 try (simp)
 repeat (refine sR ?_; simp)
 refine ⟨by omega, ?_⟩
 refine AL.weak (Weaks.frz (l' := [(2, .ptr (nb + 2) 0 0)]) (loc' := [(2, [[.d (ints (List.replicate n 0)), nilS]])]) 4 1 (rI (List.replicate n 0)) (Nat.le_refl _) rfl (by simp [lk, rowsI_eq]) (by simp [lk]) (by simp) (by simp [ToL, lk, lb_at]) (by simp [BoxL, lk]; exact to_frz0)) ?_
 refine sT ?_
 try simp only [AU]
 refine ⟨by simp, sF hbox htok (fun _ h => h) (Nat.le_refl _) ?_⟩
 simp [packA, zr, AM.edges]
theorem drop34_c (tok : Tks) (nt : Nat) : DCall Tryz.prog 34 [] tok nt dropR.av tok nt := by
 intro box nb
 refine sB Tryz.func34 Tryz.ntmps34 ?_
 intro hbox htok
 simp only at hbox htok
 apply AL.start
 try (simp)
 repeat (refine sR ?_; simp)
 refine Stop.of_d (nodes34_c 2 (by omega) _ _) ?_
 simp
 refine Stop.of_d (nodes34_c 1 (by omega) _ _) ?_
 simp
 try (simp)
 repeat (refine sR ?_; simp)
 refine sT ?_
 try simp only [AU]
 refine ⟨by simp, sF hbox htok (fun _ h => h) (Nat.le_refl _) ?_⟩
 simp [packA, dropR, zr, AM.edges, ints, slots, tests, cdOf, Cd.kind, Cd.kids, Cd.m, Cd.g, Cd.sl, Cd.vars, Cd.te, conds, rI, rE]
theorem dropR_fit : dropR.Fit := ⟨⟨by simp [dropR, zr], by simp [dropR, zr]⟩, ⟨by simp [dropR, zr], by simp [dropR, zr]⟩, ⟨by simp [dropR], by simp [dropR]⟩, ⟨by simp [dropR], by simp [dropR]⟩, by rw [bigN_eq]; simp [dropR], by rw [bigN_eq]; simp [dropR], by rw [bigN_eq]; simp [dropR], by rw [bigN_eq]; simp [dropR]⟩
theorem awC_fit : awC.Fit := .mk (by rw [kidN_eq]; simp [awC, Cd.kids]) ⟨by simp [awC, Cd.m], by simp [awC, Cd.m]⟩ ⟨by simp [awC, Cd.g, zr], by simp [awC, Cd.g, zr]⟩ (by rw [bigN_eq]; simp [awC, Cd.sl]) (by rw [bigN_eq]; simp [awC, Cd.te]) fun x hx => by
 have : x = cdOf 1 [] := by simpa [awC, Cd.kids] using hx
 subst this
 exact cdOf_fit (by rw [kidN_eq]; simp) (by simp)
theorem awT_fit : awT.Fit := ⟨by decide, by decide, by decide, by decide, by simp [awT]⟩
set_option maxRecDepth 100000 in
theorem awake34_c (tok : Tks) (nt : Nat) : DCall Tryz.prog 11 [] tok nt (B true) tok nt := by
 intro box nb
 have h1 := leftP_c dropR awC dropR_fit awC_fit
 have h2 := applicable_c awT awT_fit dropR dropR_fit
 obtain ⟨s1, s2, s3⟩ := aw_left
 obtain ⟨u1, u2, u3⟩ := aw_app
 generalize leftR dropR awC = L at *
 generalize appR awT dropR = A at *
 refine sB Tryz.func11 Tryz.ntmps11 ?_
 intro hbox htok
 simp only at hbox htok
 apply AL.start
 try (simp)
 repeat (refine sR ?_; simp)
 refine Stop.of_d (nodes34_c 2 (by omega) _ _) ?_
 simp
 try (simp)
 repeat (refine sR ?_; simp)
 refine Stop.of_d (drop34_c _ _) ?_
 simp
 refine Stop.sub (args' := [dropR.av, awC.av]) ⟨Sub.refl _, Sub.agg ⟨Sub.refl _, Sub.ds (dsub_one (by simp [cdOf, Cd.cells_eq, Cd.kind, Cd.kids, Cd.m, Cd.g, Cd.sl, Cd.vars, Cd.te, slots, tests, conds, ints, AM.edges])), Sub.data _ _ _, Sub.nil _ _ _, Sub.refl _, Sub.refl _, Sub.nil _ _ _, Sub.refl _, Sub.nil _ _ _, trivial⟩, trivial⟩ ?_
 refine Stop.of_d (h1 _ _) ?_
 simp
 try (simp)
 repeat (refine sR ?_; simp)
 refine Stop.of_d (drop34_c _ _) ?_
 simp
 refine Stop.sub (args' := [awT.av, dropR.av]) ⟨Sub.agg ⟨Sub.ds (dsub_one (by simp [atts])), Sub.ds (dsub_one (by simp)), trivial⟩, Sub.refl _, trivial⟩ ?_
 refine Stop.of_d (h2 _ _) ?_
 simp
 try (simp [s1, s2, s3, u1, u2, u3])
 repeat (refine sR ?_; simp [s1, s2, s3, u1, u2, u3])
 refine sT ?_
 try simp only [AU]
 refine ⟨by simp, sF hbox htok (fun _ h => h) (Nat.le_refl _) ?_⟩
 simp [packA]
end Go.AM
namespace Go.AM
open Go Go.Proofs
end Go.AM
namespace Go.AM
open Go
def mkL (b : Nat → Bool) (n : Nat) : List Int := ((List.range n).filter b).map fun (k : Nat) => (k : Int)
theorem mkL_succ (b : Nat → Bool) (n : Nat) : mkL b (n + 1) = if b n = true then mkL b n ++ [(n : Int)] else mkL b n := by
 unfold mkL
 rw [List.range_succ, List.filter_append, List.map_append]
 by_cases h : b n = true
 ·simp [h]
 ·simp [h]
theorem mkL_len (b : Nat → Bool) (n : Nat) : (mkL b n).length ≤ n := by
 unfold mkL
 rw [List.length_map]
 have := List.length_filter_le b (List.range n)
 simpa using this
theorem mkL_mem {b : Nat → Bool} {n : Nat} {x : Int} : x ∈ mkL b n ↔ ∃ k : Nat, k < n ∧ b k = true ∧ (k : Int) = x := by
 simp only [mkL, List.mem_map, List.mem_filter, List.mem_range]
 constructor
 ·rintro ⟨k, ⟨h1, h2⟩, h3⟩; exact ⟨k, h1, h2, h3⟩
 ·rintro ⟨k, h1, h2, h3⟩; exact ⟨k, ⟨h1, h2⟩, h3⟩
theorem mkL_pw (b : Nat → Bool) (n : Nat) : (mkL b n).Pairwise (· < ·) := by
 unfold mkL
 rw [List.pairwise_map]
 refine List.Pairwise.filter _ (List.Pairwise.imp (R := (· < ·)) (fun h => by omega) List.pairwise_lt_range)
theorem mkL_ext {b c : Nat → Bool} {n : Nat} (h : ∀ k, k < n → b k = c k) : mkL b n = mkL c n := by
 unfold mkL
 congr 1
 exact List.filter_congr fun k hk => h k (List.mem_range.1 hk)
def lsK (N E : List Bool) (fs ts : Nat → Nat) : Nat → List Bool
 | 0 => N
 | i + 1 => if E.getD i false = true then ((lsK N E fs ts i).set (fs i) true).set (ts i) true else lsK N E fs ts i
theorem lsK_len (N E : List Bool) (fs ts : Nat → Nat) : ∀ i, (lsK N E fs ts i).length = N.length
 | 0 => rfl
 | i + 1 => by
  unfold lsK
  split
  ·rw [List.length_set, List.length_set]; exact lsK_len N E fs ts i
  ·exact lsK_len N E fs ts i
theorem lsK_yes {N E : List Bool} {fs ts : Nat → Nat} {i : Nat} (h : E.getD i false = true) : lsK N E fs ts (i + 1) = ((lsK N E fs ts i).set (fs i) true).set (ts i) true := by rw [lsK, if_pos h]
theorem lsK_no {N E : List Bool} {fs ts : Nat → Nat} {i : Nat} (h : E.getD i false = false) : lsK N E fs ts (i + 1) = lsK N E fs ts i := by rw [lsK, if_neg (by rw [h]; decide)]
end Go.AM
namespace Go.AM
open Go Go.Proofs
def lsN (g : Gr) (bn be : Nat → Bool) (i k : Nat) : Bool := bn k || (List.range i).any fun (j : Nat) => be j && (decide ((g.edges.getD j default).fr = (k : Int)) || decide ((g.edges.getD j default).to = (k : Int)))
theorem lsN_succ (g : Gr) (bn be : Nat → Bool) (i k : Nat) : lsN g bn be (i + 1) k = (lsN g bn be i k || (be i && (decide ((g.edges.getD i default).fr = (k : Int)) || decide ((g.edges.getD i default).to = (k : Int))))) := by
 unfold lsN
 rw [List.range_succ, List.any_append, Bool.or_assoc]
 simp
def lstP (g : Gr) (bn be : Nat → Bool) : Mo := ⟨mkL (lsN g bn be g.edges.length) g.nodes.length, mkL be g.edges.length⟩
theorem lstP_vp {g : Gr} {bn be : Nat → Bool} (hv : validG g = 0) : VP g (lstP g bn be) := by
 refine ⟨hv, fun x hx => ?_, fun x hx => ?_, pw_getD (mkL_pw _ _), pw_getD (mkL_pw _ _), fun x hx => ?_⟩
 ·obtain ⟨k, hk, _, rfl⟩ := mkL_mem.1 hx
  omega
 ·obtain ⟨k, hk, _, rfl⟩ := mkL_mem.1 hx
  omega
 ·obtain ⟨k, hk, hb, rfl⟩ := mkL_mem.1 hx
  obtain ⟨b1, b2, b3, b4⟩ := validG_edges hv (g.edges.getD k default) (getD_mem hk)
  have key : ∀ y : Int, 0 ≤ y → y < g.nodes.length → ((g.edges.getD k default).fr = y ∨ (g.edges.getD k default).to = y) → y ∈ mkL (lsN g bn be g.edges.length) g.nodes.length := fun y h0 h1 h => by
   refine mkL_mem.2 ⟨y.toNat, by omega, ?_, by omega⟩
   unfold lsN
   rw [Bool.or_eq_true, List.any_eq_true]
   refine .inr ⟨k, List.mem_range.2 hk, ?_⟩
   rw [hb, show ((y.toNat : Nat) : Int) = y by omega]
   simpa using h
  rw [Int.toNat_natCast]
  exact ⟨key _ b1 b2 (.inl rfl), key _ b3 b4 (.inr rfl)⟩
structure Gw (l g : Gr) (n m : Nat) : Prop where
 ex : ∃ T U, g.nodes = l.nodes ++ T ∧ g.edges = l.edges ++ U ∧ T.length ≤ n ∧ U.length ≤ m ∧ (∀ a ∈ T, 0 ≤ a ∧ a < 3) ∧ ∀ e ∈ U, (0 ≤ e.ty ∧ e.ty < 2) ∧ (0 ≤ e.fr ∧ e.fr < g.nodes.length) ∧ 0 ≤ e.to ∧ e.to < g.nodes.length
theorem Gw.refl (l : Gr) : Gw l l 0 0 := ⟨[], [], by simp, by simp, by simp, by simp, by simp, by simp⟩
theorem Gw.node {l g : Gr} {n m : Nat} {a : Int} (h : Gw l g n m) (ha : 0 ≤ a ∧ a < 3) : Gw l ⟨g.nodes ++ [a], g.edges⟩ (n + 1) m := by
 obtain ⟨T, U, h1, h2, h3, h4, h5, h6⟩ := h.ex
 refine ⟨T ++ [a], U, by rw [h1, List.append_assoc], h2, by simp; omega, h4, fun x hx => ?_, fun e he => ?_⟩
 ·rcases List.mem_append.1 hx with hx | hx
  ·exact h5 x hx
  ·rw [List.mem_singleton.1 hx]; exact ha
 ·obtain ⟨k1, k2, k3⟩ := h6 e he
  simp only [List.length_append, List.length_cons, List.length_nil]
  exact ⟨k1, by omega, by omega⟩
theorem Gw.edge {l g : Gr} {n m : Nat} {e : E} (h : Gw l g n m) (h0 : 0 ≤ e.ty ∧ e.ty < 2) (hf : 0 ≤ e.fr ∧ e.fr < g.nodes.length) (ht : 0 ≤ e.to ∧ e.to < g.nodes.length) : Gw l ⟨g.nodes, g.edges ++ [e]⟩ n (m + 1) := by
 obtain ⟨T, U, h1, h2, h3, h4, h5, h6⟩ := h.ex
 refine ⟨T, U ++ [e], h1, by rw [h2, List.append_assoc], h3, by simp; omega, h5, fun x hx => ?_⟩
 rcases List.mem_append.1 hx with hx | hx
 ·exact h6 x hx
 ·rw [List.mem_singleton.1 hx]; exact ⟨h0, hf, ht⟩
theorem Gw.mono {l g : Gr} {n m n' m' : Nat} (h : Gw l g n m) (h1 : n ≤ n') (h2 : m ≤ m') : Gw l g n' m' := by
 obtain ⟨T, U, k1, k2, k3, k4, k5, k6⟩ := h.ex
 exact ⟨T, U, k1, k2, by omega, by omega, k5, k6⟩
theorem Gw.len {l g : Gr} {n m : Nat} (h : Gw l g n m) : l.nodes.length ≤ g.nodes.length ∧ g.nodes.length ≤ l.nodes.length + n ∧ g.edges.length ≤ l.edges.length + m := by
 obtain ⟨T, U, k1, k2, k3, k4, k5, k6⟩ := h.ex
 rw [k1, k2, List.length_append, List.length_append]
 omega
theorem Gw.pre {l g : Gr} {n m : Nat} (h : Gw l g n m) (hv : validG l = 0) (h1 : l.nodes.length + n ≤ 40) (h2 : l.edges.length + m ≤ 80) : Pre l g := by
 have hl := h.len
 obtain ⟨T, U, k1, k2, k3, k4, k5, k6⟩ := h.ex
 obtain ⟨v0, v1, v2⟩ := validG_types hv
 refine ⟨hv, validG_of (by omega) (fun x hx => ?_) (fun e he => ?_), ⟨T, k1⟩, ⟨U, k2⟩⟩
 ·rw [k1] at hx
  rcases List.mem_append.1 hx with hx | hx
  ·exact v1 x hx
  ·have := k5 x hx
   exact within_of this.1 (by omega)
 ·rw [k2] at he
  rcases List.mem_append.1 he with he | he
  ·have := v2 e he
   rw [fitsB_iff] at this ⊢
   exact ⟨this.1, by omega, by omega⟩
  ·obtain ⟨t1, t2, t3⟩ := k6 e he
   rw [fitsB_iff]
   exact ⟨within_of t1.1 (by omega), t2, t3⟩
structure InK (g : Gr) : Prop where
 n : ∀ a ∈ g.nodes, 0 ≤ a ∧ a < 3
 e : ∀ x ∈ g.edges, 0 ≤ x.ty ∧ x.ty < 2
theorem Gw.inK {l g : Gr} {n m : Nat} (h : Gw l g n m) (hl : InK l) : InK g := by
 obtain ⟨T, U, k1, k2, k3, k4, k5, k6⟩ := h.ex
 refine ⟨fun a ha => ?_, fun x hx => ?_⟩
 ·rw [k1] at ha
  rcases List.mem_append.1 ha with ha | ha
  ·exact hl.n a ha
  ·exact k5 a ha
 ·rw [k2] at hx
  rcases List.mem_append.1 hx with hx | hx
  ·exact hl.e x hx
  ·exact (k6 x hx).1
theorem madeG_in (x : Dr) : InK (madeG x) := by
 refine ⟨fun a ha => ?_, fun e he => ?_⟩
 ·simp only [madeG, mN, List.mem_map] at ha
  obtain ⟨k, hk, rfl⟩ := ha
  omega
 ·simp only [madeG] at he
  split at he
  ·simp at he
  ·simp only [mE, List.mem_map] at he
   obtain ⟨k, hk, rfl⟩ := he
   simp only
   omega
theorem exG_in {g : Gr} {p : Mo} (hp : VP g p) (h : InK g) : InK (exG g p) := by
 refine ⟨fun a ha => ?_, fun x hx => ?_⟩
 ·simp only [exG, List.mem_map] at ha
  obtain ⟨k, hk, rfl⟩ := ha
  have := hp.n k hk
  exact h.n _ (getD_mem (by omega))
 ·simp only [exG, List.mem_map] at hx
  obtain ⟨k, hk, rfl⟩ := hx
  have := hp.e k hk
  exact h.e (g.edges.getD k.toNat default) (getD_mem (by omega))
theorem gwN_ex (ns cs : List Int) : ∀ i, ∃ T, gwN ns cs i = ns ++ T ∧ T.length ≤ i ∧ ∀ a ∈ T, 0 ≤ a ∧ a < 3
 | 0 => ⟨[], by simp [gwN], by simp, by simp⟩
 | i + 1 => by
  obtain ⟨T, h1, h2, h3⟩ := gwN_ex ns cs i
  by_cases h : i < cs.length
  ·by_cases h0 : 1 ≤ i
   ·rw [gwN_more h h0]
    split
    ·refine ⟨T ++ [cs[i] / 2 % 3], by rw [h1, List.append_assoc], by simp; omega, fun a ha => ?_⟩
     rcases List.mem_append.1 ha with ha | ha
     ·exact h3 a ha
     ·rw [List.mem_singleton.1 ha]; omega
    ·exact ⟨T, h1, by omega, h3⟩
   ·refine ⟨[], ?_, by simp, by simp⟩
    rw [gwN, List.drop_eq_nil_of_le (by simp; omega)]
    simp
  ·refine ⟨T, ?_, by omega, h3⟩
   rw [← h1]
   unfold gwN
   rw [List.take_of_length_le (by omega), List.take_of_length_le (by omega)]
theorem gwE_ex {n : Nat} (hn : 0 < n) (es : List E) (cs : List Int) : ∀ i, ∃ U, gwE n es cs i = es ++ U ∧ U.length ≤ i ∧ ∀ e ∈ U, (0 ≤ e.ty ∧ e.ty < 2) ∧ (0 ≤ e.fr ∧ e.fr < n) ∧ 0 ≤ e.to ∧ e.to < n
 | 0 => ⟨[], by simp [gwE], by simp, by simp⟩
 | i + 1 => by
  obtain ⟨T, h1, h2, h3⟩ := gwE_ex hn es cs i
  by_cases h : i < cs.length
  ·by_cases h0 : 4 ≤ i
   ·rw [gwE_more h h0]
    refine ⟨T ++ [⟨cs[i] % 2, cs[i] / 2 % n, cs[i] / 16 % n⟩], by rw [h1, List.append_assoc], by simp; omega, fun a ha => ?_⟩
    rcases List.mem_append.1 ha with ha | ha
    ·exact h3 a ha
    ·rw [List.mem_singleton.1 ha]
     have hnz : (n : Int) ≠ 0 := by omega
     have hp : (0 : Int) < n := by omega
     exact ⟨by simp only; omega, ⟨Int.emod_nonneg _ hnz, Int.emod_lt_of_pos _ hp⟩, Int.emod_nonneg _ hnz, Int.emod_lt_of_pos _ hp⟩
   ·refine ⟨[], ?_, by simp, by simp⟩
    rw [gwE, List.drop_eq_nil_of_le (by simp; omega)]
    simp
  ·refine ⟨T, ?_, by omega, h3⟩
   rw [← h1]
   unfold gwE
   rw [List.take_of_length_le (by omega), List.take_of_length_le (by omega)]
theorem gwG_gw (g : Gr) (cs : List Int) : Gw g (gwG g cs) 4 8 := by
 obtain ⟨T, h1, h2, h3⟩ := gwN_ex g.nodes cs (min cs.length 4)
 by_cases h0 : (gwN g.nodes cs (min cs.length 4)).length = 0
 ·refine ⟨T, [], h1, ?_, by omega, by simp, h3, by simp⟩
  simp only [gwG, if_pos h0, List.append_nil]
 ·obtain ⟨U, k1, k2, k3⟩ := gwE_ex (show 0 < (gwN g.nodes cs (min cs.length 4)).length by omega) g.edges cs (min cs.length 8)
  refine ⟨T, U, h1, ?_, by omega, by omega, h3, k3⟩
  simp only [gwG, if_neg h0]
  exact k1
def upG (g : Gr) : Gr := ⟨g.nodes.map fun a => a + 1, g.edges⟩
theorem upG_len (g : Gr) : (upG g).nodes.length = g.nodes.length := by simp [upG]
theorem upG_valid {g : Gr} (hv : validG g = 0) (h : InK g) : validG (upG g) = 0 := by
 obtain ⟨v0, v1, v2⟩ := validG_types hv
 refine validG_of (by rw [upG_len]; exact v0) (fun x hx => ?_) (fun e he => ?_)
 ·simp only [upG, List.mem_map] at hx
  obtain ⟨a, ha, rfl⟩ := hx
  have := h.n a ha
  exact within_of (by omega) (by omega)
 ·rw [upG_len]; exact v2 e he
theorem upG_pre {l g : Gr} (h : Pre l g) (h1 : InK l) (h2 : InK g) : Pre (upG l) (upG g) := by
 obtain ⟨T, ht⟩ := h.n
 obtain ⟨U, hu⟩ := h.e
 exact ⟨upG_valid h.va h1, upG_valid h.vb h2, ⟨T.map fun a => a + 1, by simp only [upG]; rw [ht, List.map_append]⟩, ⟨U, hu⟩⟩
theorem upG_ex {g : Gr} {p : Mo} (hp : VP g p) : exG (upG g) p = upG (exG g p) := by
 simp only [exG, upG, List.map_map]
 refine congrArg (fun l => Gr.mk l _) (List.map_congr_left fun k hk => ?_)
 have := hp.n k hk
 have hl : k.toNat < g.nodes.length := by omega
 simp [hl]
theorem upG_vp {g : Gr} {p : Mo} (hp : VP g p) (h : InK g) : VP (upG g) p := ⟨upG_valid hp.va h, by rw [upG_len]; exact hp.n, hp.e, hp.sn, hp.se, hp.c⟩
theorem upG_id (g : Gr) : idM (upG g) = idM g := by unfold idM; rw [upG_len]; rfl
end Go.AM
namespace Go.AM
open Go Go.ChangeShapes
variable {P : Program}
def Rd (w : World) (cs : List Value) (ds : List D) : Prop := cs.length = ds.length ∧ ∀ i (h1 : i < cs.length) (h2 : i < ds.length), RVd w.cell? (fun _ => True) ds[i] cs[i]
theorem Rd.append {w : World} {cs cs' : List Value} {ds ds' : List D} (h : Rd w cs ds) (k : Rd w cs' ds') : Rd w (cs ++ cs') (ds ++ ds') := by
 refine ⟨by simp [h.1, k.1], fun i h1 h2 => ?_⟩
 by_cases hi : i < cs.length
 ·rw [List.getElem_append_left hi, List.getElem_append_left (by rw [← h.1]; exact hi)]
  exact h.2 i hi _
 ·have hl := h.1
  rw [List.getElem_append_right (by omega), List.getElem_append_right (by omega)]
  have := k.2 (i - cs.length) (by simp at h1; omega) (by have := k.1; simp at h1; omega)
  simpa [hl] using this
theorem Rd.one {w : World} {c : Value} {d : D} (h : RVd w.cell? (fun _ => True) d c) : Rd w [c] [d] := ⟨rfl, fun i h1 h2 => by
 have : i = 0 := by simpa using h1
 subst this
 exact h⟩
def Light {H : Type} (P : Program) (T : TypeId) (d : DataW H) : Prop := (d.weights P T).all (· ≤ reachBytes) = true
structure Rdr (P : Program) (T : TypeId) (α : Type) where
 enc : α → List D
 ok : α → Prop
 len : ∀ x, (enc x).length = P.cellsOf T
 sound : ∀ {H : Type} (e : TypeId × Value → H) (w : World) (base : Nat) (spare : Nat → Bool) (held : Bool) (fuel : Nat) (cs : List Value) (x : DataW H × List MemPlace),
  DataW.trod e P w base spare held fuel T cs = some x → ∃ y, Rd w cs (enc y) ∧ (Light P T x.1 → ok y)
def Rdr.int {T : TypeId} {k : IntKind} (h : P.underlying T = some (.int k)) (hc : P.cellsOf T = 1) : Rdr P T Int where
 enc n := [.raw (.int k n)]
 ok n := (Lit.int k n).wf = true
 len _ := by simp [hc]
 sound e w base spare held fuel cs x hx := by
  cases fuel with
  | zero => simp [DataW.trod] at hx
  | succ n =>
   unfold DataW.trod at hx
   rw [h] at hx
   split at hx <;> simp_all
   rename_i k' n' _
   exact ⟨n', Rd.one (.raw rfl), fun _ => hx.1.2⟩
theorem cells_spec {w : World} {base : Nat} {a : Addr} {n : Nat} {l : List Value} (h : w.cells? base a n = some l) : l.length = n ∧ ∀ i (hi : i < l.length), w.cell? (a.add i) = some l[i] := by
 unfold World.cells? at h
 split at h
 ·have h1 : l.length = n := by have := mapM_some_length h; simpa using this
  refine ⟨h1, fun i hi => ?_⟩
  have hin : i < n := by omega
  have := mapM_some_get h i i (by simp [hin])
  rw [this]
  exact List.getElem?_eq_getElem hi
 ·cases h
theorem light_slice {H : Type} {T E : TypeId} (h : P.underlying T = some (.slice E)) {elems rest : List (DataW H)} (hl : Light P T (.slice elems rest)) : elems.length * P.bytesOf E ≤ reachBytes ∧ ∀ d ∈ elems, Light P E d := by
 unfold Light at hl ⊢
 simp only [DataW.weights, h, List.all_cons, List.all_append, Bool.and_eq_true, decide_eq_true_eq] at hl
 refine ⟨Nat.le_trans (Nat.mul_le_mul_right _ (Nat.le_add_right _ _)) hl.1, ?_⟩
 have key : ∀ l : List (DataW H), (DataW.weightsAll P E l).all (· ≤ reachBytes) = true → ∀ d ∈ l, (d.weights P E).all (· ≤ reachBytes) = true := by
  intro l
  induction l with
  | nil => intro _ d hd; simp at hd
  | cons x l ih =>
   intro hx d hd
   simp only [DataW.weightsAll, List.all_append, Bool.and_eq_true] at hx
   rcases List.mem_cons.1 hd with rfl | hd
   ·exact hx.1
   ·exact ih hx.2 d hd
 exact key elems hl.2.1
def Rdr.slice {T E : TypeId} {α : Type} (r : Rdr P E α) (h : P.underlying T = some (.slice E)) (hc : P.cellsOf T = 1) : Rdr P T (List α) where
 enc l := [.sl (P.cellsOf E) (l.map r.enc)]
 ok l := (∀ x ∈ l, r.ok x) ∧ l.length * P.bytesOf E ≤ reachBytes
 len _ := by simp [hc]
 sound e w base spare held fuel cs x hx := by
  rcases DataW.trod_slice h hx with ⟨rfl, rfl⟩ | ⟨a, len, cap, elems, rest, n, rfl, rfl, rfl, hb, hl, hm, hel, hat, _⟩
  ·exact ⟨[], Rd.one (.sl (es := []) (fun _ _ => default) (Nat.le_refl _) (by decide) (by simp) (by simp) (by simp) (by simp)), fun _ => ⟨by simp, by simp⟩⟩
  ·have key : ∀ i (hi : i < elems.length), ∃ cs y, cs.length = P.cellsOf E ∧ (∀ j (hj : j < cs.length), w.cell? (a.add (i * P.cellsOf E + j)) = some cs[j]) ∧ Rd w cs (r.enc y) ∧ (Light P E elems[i].1 → r.ok y) := by
    intro i hi
    have h1 := hat i (by omega)
    have h2 : elems[i]? = some elems[i] := List.getElem?_eq_getElem hi
    rw [h2, Option.bind_eq_some_iff] at h1
    obtain ⟨cs, hcs, htr⟩ := h1
    obtain ⟨hcl, hcc⟩ := cells_spec hcs
    obtain ⟨y, hy, hok⟩ := r.sound e w base spare held n cs _ htr
    refine ⟨cs, y, hcl, fun j hj => ?_, hy, hok⟩
    rw [← Addr.add_add]
    exact hcc j hj
   have pick : ∀ m, m ≤ elems.length → ∃ ys : List α, ys.length = m ∧ (∀ i (hi : i < ys.length) (hi2 : i < elems.length), ∃ cs, cs.length = P.cellsOf E ∧ (∀ j (hj : j < cs.length), w.cell? (a.add (i * P.cellsOf E + j)) = some cs[j]) ∧ Rd w cs (r.enc ys[i]) ∧ (Light P E elems[i].1 → r.ok ys[i])) := by
    intro m
    induction m with
    | zero => intro _; exact ⟨[], rfl, fun i hi => by simp at hi⟩
    | succ m ih =>
     intro hm'
     obtain ⟨ys, hys, hall⟩ := ih (by omega)
     obtain ⟨cs, y, g1, g2, g3, g4⟩ := key m (by omega)
     refine ⟨ys ++ [y], by simp [hys], fun i hi hi2 => ?_⟩
     by_cases him : i < ys.length
     ·rw [List.getElem_append_left him]
      exact hall i him hi2
     ·have : i = m := by simp at hi; omega
      subst this
      have e1 : (ys ++ [y])[i] = y := by
       rw [List.getElem_append_right (by omega)]
       simp
      rw [e1]
      exact ⟨cs, g1, g2, g3, g4⟩
   obtain ⟨ys, hys, hall⟩ := pick elems.length (Nat.le_refl _)
   refine ⟨ys, Rd.one ?_, fun hli => ?_⟩
   ·have hlen : len = ys.length := by omega
    subst hlen
    have hml : ys.length = (ys.map r.enc).length := by simp
    rw [hml]
    refine .sl (fun i j => (w.cell? (a.add (i * P.cellsOf E + j))).getD default) (by simpa using hl) hm (fun e he => ?_) (fun _ => ⟨a, rfl⟩) (fun a' ha' i j hi hj => ?_) (fun i j hi hj => ?_)
    ·obtain ⟨y, _, rfl⟩ := List.mem_map.1 he
     exact r.len y
    ·cases ha'
     obtain ⟨cs, g1, g2, _⟩ := hall i (by simpa using hi) (by simp at hi; omega)
     rw [g2 j (by omega)]
     exact ⟨trivial, rfl⟩
    ·obtain ⟨cs, g1, g2, g3, _⟩ := hall i (by simpa using hi) (by simp at hi; omega)
     simp only [List.getElem_map] at hj ⊢
     have hjc : j < cs.length := by rw [g3.1]; exact hj
     rw [g2 j hjc]
     exact g3.2 j hjc hj
   ·obtain ⟨w1, w2⟩ := light_slice h hli
    refine ⟨fun y hy => ?_, by simpa [hys] using w1⟩
    obtain ⟨i, hi, rfl⟩ := List.getElem_of_mem hy
    obtain ⟨_, _, _, _, h4⟩ := hall i hi (by omega)
    exact h4 (w2 _ (List.mem_map.2 ⟨_, List.getElem_mem _, rfl⟩))
def Rdr.map {T : TypeId} {α β : Type} (r : Rdr P T α) (f : α → β) (enc : β → List D) (ok : β → Prop) (he : ∀ x, enc (f x) = r.enc x) (hok : ∀ x, r.ok x → ok (f x)) (hl : ∀ y, (enc y).length = P.cellsOf T) : Rdr P T β where
 enc := enc
 ok := ok
 len := hl
 sound e w base spare held fuel cs x hx := by
  obtain ⟨y, h1, h2⟩ := r.sound e w base spare held fuel cs x hx
  exact ⟨f y, by rw [he]; exact h1, fun hl => hok y (h2 hl)⟩
def Rdr.sliceN {T E : TypeId} {α : Type} (r : Rdr P E α) (n : Nat) (h : P.underlying T = some (.slice E)) (hc : P.cellsOf T = 1) (hn : P.cellsOf E = n) : Rdr P T (List α) where
 enc l := [.sl n (l.map r.enc)]
 ok l := (∀ x ∈ l, r.ok x) ∧ l.length * P.bytesOf E ≤ reachBytes
 len _ := by simp [hc]
 sound := by
  subst hn
  exact (Rdr.slice r h hc).sound
theorem list2 {α : Type} {l : List α} (h : l.length = 2) : l = [l[0]'(by omega), l[1]'(by omega)] := by
 match l, h with
 | [p, q], _ => rfl
theorem list3 {α : Type} {l : List α} (h : l.length = 3) : l = [l[0]'(by omega), l[1]'(by omega), l[2]'(by omega)] := by
 match l, h with
 | [p, q, r], _ => rfl
def Rdr.struct2 {T A B : TypeId} {α β : Type} (r : Rdr P A α) (s : Rdr P B β) {f0 f1 : Field} (h : P.underlying T = some (.struct #[f0, f1])) (hA : f0.type = A) (hB : f1.type = B) (h0 : f0.offset = 0) (h1 : f1.offset = P.cellsOf A)
  (hc : P.cellsOf T = P.cellsOf A + P.cellsOf B) : Rdr P T (α × β) where
 enc x := r.enc x.1 ++ s.enc x.2
 ok x := r.ok x.1 ∧ s.ok x.2
 len x := by simp [r.len, s.len, hc]
 sound e w base spare held fuel cs x hx := by
  obtain ⟨xs, n, rfl, rfl, hl, hxs, hat⟩ := DataW.trod_struct h hx
  have hxs' : xs.length = 2 := hxs
  have g0 := hat 0 f0 rfl
  have g1 := hat 1 f1 rfl
  have e0 : xs[0]? = some (xs[0]'(by omega)) := List.getElem?_eq_getElem (by omega)
  have e1 : xs[1]? = some (xs[1]'(by omega)) := List.getElem?_eq_getElem (by omega)
  rw [e0, h0, hA] at g0
  rw [e1, h1, hB] at g1
  obtain ⟨y, k1, k2⟩ := r.sound e w base spare held n _ _ g0
  obtain ⟨z, m1, m2⟩ := s.sound e w base spare held n _ _ g1
  refine ⟨(y, z), ?_, fun hli => ?_⟩
  rotate_left
  ·unfold Light at hli k2 m2
   have e2 : xs = [xs[0]'(by omega), xs[1]'(by omega)] := list2 hxs'
   rw [e2] at hli
   simp only [List.map_cons, List.map_nil, DataW.weights, h, DataW.weightsEach, hA, hB, List.all_append, Bool.and_eq_true] at hli
   exact ⟨k2 hli.1, m2 hli.2.1⟩
  have hcs : cs = (cs.drop 0).take (P.cellsOf A) ++ (cs.drop (P.cellsOf A)).take (P.cellsOf B) := by
   have : (cs.drop (P.cellsOf A)).take (P.cellsOf B) = cs.drop (P.cellsOf A) := List.take_of_length_le (by simp; omega)
   rw [this, List.drop_zero, List.take_append_drop]
  rw [hcs]
  exact k1.append m1
def Rdr.struct3 {T A B C : TypeId} {α β γ : Type} (r : Rdr P A α) (s : Rdr P B β) (t : Rdr P C γ) {f0 f1 f2 : Field} (h : P.underlying T = some (.struct #[f0, f1, f2])) (hA : f0.type = A) (hB : f1.type = B) (hC : f2.type = C)
  (h0 : f0.offset = 0) (h1 : f1.offset = P.cellsOf A) (h2 : f2.offset = P.cellsOf A + P.cellsOf B) (hc : P.cellsOf T = P.cellsOf A + P.cellsOf B + P.cellsOf C) : Rdr P T (α × β × γ) where
 enc x := r.enc x.1 ++ (s.enc x.2.1 ++ t.enc x.2.2)
 ok x := r.ok x.1 ∧ s.ok x.2.1 ∧ t.ok x.2.2
 len x := by simp [r.len, s.len, t.len, hc]; omega
 sound e w base spare held fuel cs x hx := by
  obtain ⟨xs, n, rfl, rfl, hl, hxs, hat⟩ := DataW.trod_struct h hx
  have hxs' : xs.length = 3 := hxs
  have g0 := hat 0 f0 rfl
  have g1 := hat 1 f1 rfl
  have g2 := hat 2 f2 rfl
  have e0 : xs[0]? = some (xs[0]'(by omega)) := List.getElem?_eq_getElem (by omega)
  have e1 : xs[1]? = some (xs[1]'(by omega)) := List.getElem?_eq_getElem (by omega)
  have e2 : xs[2]? = some (xs[2]'(by omega)) := List.getElem?_eq_getElem (by omega)
  rw [e0, h0, hA] at g0
  rw [e1, h1, hB] at g1
  rw [e2, h2, hC] at g2
  obtain ⟨y, k1, k2⟩ := r.sound e w base spare held n _ _ g0
  obtain ⟨z, m1, m2⟩ := s.sound e w base spare held n _ _ g1
  obtain ⟨q, p1, p2⟩ := t.sound e w base spare held n _ _ g2
  refine ⟨(y, z, q), ?_, fun hli => ?_⟩
  rotate_left
  ·unfold Light at hli k2 m2 p2
   have e2 : xs = [xs[0]'(by omega), xs[1]'(by omega), xs[2]'(by omega)] := list3 hxs'
   rw [e2] at hli
   simp only [List.map_cons, List.map_nil, DataW.weights, h, DataW.weightsEach, hA, hB, hC, List.all_append, Bool.and_eq_true] at hli
   exact ⟨k2 hli.1, m2 hli.2.1, p2 hli.2.2.1⟩
  have hcs : cs = (cs.drop 0).take (P.cellsOf A) ++ ((cs.drop (P.cellsOf A)).take (P.cellsOf B) ++ (cs.drop (P.cellsOf A + P.cellsOf B)).take (P.cellsOf C)) := by
   have : (cs.drop (P.cellsOf A + P.cellsOf B)).take (P.cellsOf C) = cs.drop (P.cellsOf A + P.cellsOf B) := List.take_of_length_le (by simp; omega)
   rw [this, ← List.drop_drop, List.take_append_drop, List.drop_zero, List.take_append_drop]
  rw [hcs]
  exact k1.append (m1.append p1)
def G0 : Gh := ⟨fun _ => none, fun _ => none, fun _ => .whole, 0⟩
def m0 : AMem := ⟨fun _ => none, 0, fun _ => false, 0⟩
theorem G0_ps (a : Addr) : G0.ps a := trivial
theorem relM_start (W : World) : RelM G0 m0 W := by
 constructor
 case box => intro k rows b sz h; cases h
 case nobox => intro k _; rfl
 case inj => intro k k' b sz sz' h; cases h
 case nb => intro k _; rfl
 case nt => rfl
 case toks => intro t h; cases h
 case tokb => intro t g h; cases h
 case tinj => intro t t' g h; cases h
 case tnt => intro t x h; cases h
 case fresh => intro b _; rfl
theorem RVd.start {W : World} {d : D} {v : Value} (h : RVd W.cell? (fun _ => True) d v) : RVd W.cell? G0.ps d v := h.mono fun a u _ hc => ⟨G0_ps a, hc⟩
theorem Rdr.agg {T : TypeId} {α : Type} (r : Rdr P T α) {W : World} {base base' : Nat} {sp : Nat → Bool} {held : Bool} {H : Type} {enc : TypeId × Value → H} {v : Value} {d : DataW H} {p : List MemPlace}
  (hs : aggT P T = some true) (hv : Value.okWide P W .any base T v) (h : DataW.Trod enc P W base' sp held T v d p) (hli : Light P T d) : ∃ y, r.ok y ∧ RV G0 W (.agg ((r.enc y).map .d)) v := by
 have hcs : ∃ cs, v = .agg cs := by
  unfold aggT at hs
  unfold Value.okWide at hv
  cases hu : P.underlying T with
  | none => rw [hu] at hs; simp at hs
  | some u =>
   rw [hu] at hs hv
   cases u <;> simp at hs hv <;> exact ⟨_, hv.choose_spec.1⟩
 obtain ⟨cs, rfl⟩ := hcs
 obtain ⟨fuel, h⟩ := h
 obtain ⟨y, ⟨h1, h2⟩, hok⟩ := r.sound enc W base' sp held fuel _ _ h
 refine ⟨y, hok hli, ?_⟩
 simp only [Value.cells] at h1 h2
 have := RV.agg (G := G0) (w := W) (cs := (r.enc y).map .d) (vs := cs.toList) (by simp [h1]) (fun i g1 g2 => by
  simp only [List.getElem_map]
  exact .d (h2 i g2 (by simpa using g1)).start) (fun v hv => by
  obtain ⟨i, hi, rfl⟩ := List.getElem_of_mem hv
  exact (h2 i hi (by omega)).one)
 simpa using this
theorem Rdr.cell {T : TypeId} {α : Type} (r : Rdr P T α) {W : World} {base base' : Nat} {sp : Nat → Bool} {held : Bool} {H : Type} {enc : TypeId × Value → H} {v : Value} {d : DataW H} {p : List MemPlace} (f : α → D)
  (hs : aggT P T = some false) (hf : ∀ y, r.enc y = [f y]) (hv : Value.okWide P W .any base T v) (h : DataW.Trod enc P W base' sp held T v d p) (hli : Light P T d) : ∃ y, r.ok y ∧ RV G0 W (.d (f y)) v := by
 obtain ⟨fuel, h⟩ := h
 obtain ⟨y, ⟨h1, h2⟩, hok⟩ := r.sound enc W base' sp held fuel _ _ h
 refine ⟨y, hok hli, ?_⟩
 rw [hf] at h1
 have hcs : v.cells.toList = [v] := by
  cases v with
  | agg cs =>
   exfalso
   unfold aggT at hs
   unfold Value.okWide Cell.okWide Cell.ok at hv
   cases hu : P.underlying T with
   | none => rw [hu] at hs; simp at hs
   | some u =>
    rw [hu] at hs hv
    cases u <;> simp_all
  | _ => rfl
 have := h2 0 (by rw [h1]; simp) (by rw [hf]; simp)
 simp only [hf, List.getElem_cons_zero] at this
 have e : v.cells.toList[0]'(by rw [h1]; simp) = v := by simp [hcs]
 rw [e] at this
 exact .d this.start
theorem light_arg {H : Type} {ts : List TypeId} {ds : List (DataW H)} (hz : (DataW.weightsEach P ts ds).all (· ≤ reachBytes) = true) {j : Nat} {T : TypeId} {d : DataW H} (ht : ts[j]? = some T) (hd : ds[j]? = some d) : Light P T d :=
 List.all_eq_true.2 fun x hx => List.all_eq_true.1 hz x (DataW.weights_mem_each ht hd x hx)
theorem arg_agg {ps : Array TypeId} {args : Array Value} {W : World} {base base' : Nat} {sp : Nat → Bool} {held : Bool} {H : Type} {enc : TypeId × Value → H} (hval : ∀ (j : Nat) t v, ps[j]? = some t → args[j]? = some v → Value.okWide P W .any base t v)
  (j : Nat) (T : TypeId) (v : Value) (hp : ps[j]? = some T) (ha : args[j]? = some v) {α : Type} (r : Rdr P T α) {d : DataW H} {p : List MemPlace} (hs : aggT P T = some true) (h : DataW.Trod enc P W base' sp held T v d p) (hli : Light P T d) :
  ∃ y, r.ok y ∧ RV G0 W (.agg ((r.enc y).map .d)) v := r.agg hs (hval j T v hp ha) h hli
theorem le_old {W W' : World} {G' : Gh} (h : Le G0 W G' W') (b : Nat) (hb : b < W.heap.size) : W'.heap[b]? = W.heap[b]? := (h.whole b hb rfl).2
theorem le_kept {W W' : World} {G' : Gh} (h : Le G0 W G' W') (may : MemPlace → Prop) : W.keptBut W' may := by
 refine ⟨h.os, h.output, fun i hi => ?_⟩
 rw [le_old h i hi]
 split
 ·rename_i c t fr c' t' fr' e1 e2
  rw [e1] at e2
  cases e2
  exact ⟨rfl, rfl, rfl, fun _ _ => rfl⟩
 ·rename_i e1 e2
  rw [e1] at e2
  cases e2
  exact .inr ⟨rfl, rfl⟩
 ·rfl
theorem le_same {W W' : World} {G' : Gh} (h : Le G0 W G' W') {p : MemPlace} (hp : p.block < W.heap.size) : W.sameAt W' p := by
 cases p with
 | cell b off => exact World.cell?_of_block (w := W) (a := ⟨b, off, none⟩) (le_old h b hp)
 | map b => exact le_old h b hp
theorem trodAll_stays {H : Type} {enc : TypeId × Value → H} {W W' : World} {T : TypeId → Prop} {sp' : Nat → Bool} (K : Kids P T) (hsz : ∀ {t e : TypeId}, T t → P.underlying t = some (.slice e) → 0 < P.cellsOf e) :
  ∀ {ts : List TypeId} {vs : List Value} {ds : List (DataW H)} {ps : List MemPlace}, (∀ t ∈ ts, T t) → DataW.TrodAll enc P W 0 (fun _ => true) true ts vs ds ps → (∀ p ∈ ps, W.sameAt W' p) → (∀ p ∈ ps, sp' p.block = true) →
  DataW.TrodAll enc P W' 0 sp' true ts vs ds ps
 | [], [], [], _, _, h, _, _ => h
 | t :: ts, v :: vs, d :: ds, _, hT, ⟨p, q, ⟨n, hn⟩, h2, e⟩, h3, h4 => by
  subst e
  exact ⟨p, q, ⟨n, DataW.trod_stays K hsz (fun h => by cases h) (hT t (by simp)) hn (fun x hx => h3 x (by simp [hx])) (fun x hx => h4 x (by simp [hx]))⟩,
   trodAll_stays K hsz (fun t ht => hT t (by simp [ht])) h2 (fun x hx => h3 x (by simp [hx])) (fun x hx => h4 x (by simp [hx])), rfl⟩
theorem law_of {f : FuncId} {fn : Func} {s : ChangeSpec} {H : Type} {enc : TypeId × Value → H} {W : World} {args : Array Value} {ds : List (DataW H)} {before : List MemPlace} {avs : List AV} {tok' : Nat → Bool} {nt' : Nat}
  (hl : laidOutB P = true) (hm : mapsRowed P = true) (hz : ((List.range P.types.size).all fun t => match P.underlying t with | some (.slice e) => decide (0 < P.cellsOf e) | _ => true) = true)
  (hpar : fn.params.all (· < P.types.size) = true) {tb : TypeId} (hres : fn.resultTypes = #[tb]) (hb : P.underlying tb = some .bool)
  (hvars : s.vars = []) (hfn : s.fn H ds = { results := [.lit (.bool true)], args := ds })
  (hW : DataW.Whole enc P fn.params.toList s.vars false W args.toList ds [] before) (hr : RVs G0 W avs args.toList) (hc : DCall P f avs (fun _ => false) 0 (B true) tok' nt') :
  Calls P f args W fun e W' => ∃ v, e = .returned v ∧ s.post enc P fn false true false false W args v W' := by
 have hcall := (hc (fun _ => none) 0).2 G0 W args.toList (relM_start W) hr
 simp only [Array.toArray_toList] at hcall
 refine hcall.mono ?_
 rintro e W' ⟨v, av, m', G', rfl, ⟨rfl, rfl⟩, _, _, hv, hle, _⟩
 cases hv with
 | d hv =>
  cases hv with
  | raw =>
   refine ⟨_, rfl, ?_⟩
   have hlt := hW.lt
   have hWW := hW
   obtain ⟨p, q, hA, hV, rfl, hfz, hnd⟩ := hW
   rw [hvars] at hV
   obtain ⟨_, rfl⟩ := trodVars_none hV
   simp only [List.append_nil] at hlt hfz hWW ⊢
   have hT : ∀ t ∈ fn.params.toList, t < P.types.size := fun t ht => by
    have := Array.all_eq_true_iff_forall_mem.1 hpar t (by simpa using ht)
    simpa using this
   have hsz : ∀ {t e : TypeId}, t < P.types.size → P.underlying t = some (.slice e) → 0 < P.cellsOf e := by
    intro t e ht hu
    have := List.all_eq_true.1 hz t (List.mem_range.2 ht)
    rw [hu] at this
    simpa using this
   have hargs : ∀ sp : Nat → Bool, (∀ x ∈ p, sp x.block = true) → DataW.TrodAll enc P W' 0 sp true fn.params.toList args.toList ds p := fun sp hsp =>
    trodAll_stays (kids_rows hl hm) hsz hT hA (fun x hx => le_same hle (hlt x hx)) hsp
   have hnat : (Value.bool true).resultList fn.resultTypes.size = [.bool true] := by rw [hres]; rfl
   have hresb : ∀ (b : Nat) (sp : Nat → Bool) (hd : Bool), DataW.TrodAll enc P W' b sp hd fn.resultTypes.toList ((Value.bool true).resultList fn.resultTypes.size) [.lit (.bool true)] [] := fun b sp hd => by
    rw [hnat, hres]
    exact trodAll_mk1 ⟨1, by simp [DataW.trod, hb, Value.cells]⟩
   have hfn' : s.fn H (ds ++ []) = { results := [.lit (.bool true)], args := ds } := by rw [List.append_nil]; exact hfn
   refine ⟨ds, [], p, [], p, [], hWW, ?_, ?_, ?_, World.keptBut_mono (fun _ f => f.elim) (le_kept hle fun _ => False), fun h => by cases h⟩
   ·rw [hfn']; exact hresb _ _ _
   ·rw [hfn']; exact hargs _ fun x hx => by simpa using hlt x hx
   ·rw [hfn', hvars]; exact rfl
end Go.AM
namespace Go.AM
open Go Go.Proofs
theorem own0 : ownKnob Tryz.prog.godebug = none := by kernel_rfl
theorem laidOut0 : laidOutB Tryz.prog = true := by kernel_rfl
theorem mapsRowed0 : mapsRowed Tryz.prog = true := by kernel_rfl
theorem slices0 : ((List.range Tryz.prog.types.size).all fun t => match Tryz.prog.underlying t with | some (.slice e) => decide (0 < Tryz.prog.cellsOf e) | _ => true) = true := by kernel_rfl
end Go.AM
namespace Go.AM
open Go Go.Proofs Go.ChangeShapes
structure RdF (P : Program) (T : TypeId) {α : Type} (en : α → List D) (ok : α → Prop) (n : Nat) : Prop where
 sound : ∀ {H : Type} (e : TypeId × Value → H) (w : World) (base : Nat) (spare : Nat → Bool) (held : Bool) (cs : List Value) (x : DataW H × List MemPlace),
  DataW.trod e P w base spare held n T cs = some x → ∃ y, Rd w cs (en y) ∧ (Light P T x.1 → ok y)
theorem Rdr.f {P : Program} {T : TypeId} {α : Type} (r : Rdr P T α) (n : Nat) : RdF P T r.enc r.ok n := ⟨fun e w base spare held cs x hx => r.sound e w base spare held n cs x hx⟩
theorem RdF.zero {P : Program} {T : TypeId} {α : Type} {en : α → List D} {ok : α → Prop} : RdF P T en ok 0 := ⟨fun e w base spare held cs x hx => by simp [DataW.trod] at hx⟩
theorem RdF.slice {P : Program} {T E : TypeId} {α : Type} {en : α → List D} {ok : α → Prop} {n : Nat} (r : RdF P E en ok n) (k : Nat) (hk : P.cellsOf E = k) (hlen : ∀ x, (en x).length = k) (h : P.underlying T = some (.slice E)) :
  RdF P T (fun l : List α => [.sl k (l.map en)]) (fun l => (∀ x ∈ l, ok x) ∧ l.length * P.bytesOf E ≤ reachBytes) (n + 1) := by
 subst hk
 constructor
 intro H e w base spare held cs x hx
 rcases DataW.trod_slice h hx with ⟨rfl, rfl⟩ | ⟨a, len, cap, elems, rest, n', hn', rfl, rfl, hb, hl, hm, hel, hat, _⟩
 ·exact ⟨[], Rd.one (.sl (es := []) (fun _ _ => default) (Nat.le_refl _) (by decide) (by simp) (by simp) (by simp) (by simp)), fun _ => ⟨by simp, by simp⟩⟩
 ·obtain rfl : n' = n := by omega
  have key : ∀ i (hi : i < elems.length), ∃ cs y, cs.length = P.cellsOf E ∧ (∀ j (hj : j < cs.length), w.cell? (a.add (i * P.cellsOf E + j)) = some cs[j]) ∧ Rd w cs (en y) ∧ (Light P E elems[i].1 → ok y) := by
   intro i hi
   have h1 := hat i (by omega)
   have h2 : elems[i]? = some elems[i] := List.getElem?_eq_getElem hi
   rw [h2, Option.bind_eq_some_iff] at h1
   obtain ⟨cs, hcs, htr⟩ := h1
   obtain ⟨hcl, hcc⟩ := cells_spec hcs
   obtain ⟨y, hy, hok⟩ := r.sound e w base spare held cs _ htr
   refine ⟨cs, y, hcl, fun j hj => ?_, hy, hok⟩
   rw [← Addr.add_add]
   exact hcc j hj
  have pick : ∀ m, m ≤ elems.length → ∃ ys : List α, ys.length = m ∧ (∀ i (hi : i < ys.length) (hi2 : i < elems.length), ∃ cs, cs.length = P.cellsOf E ∧ (∀ j (hj : j < cs.length), w.cell? (a.add (i * P.cellsOf E + j)) = some cs[j]) ∧ Rd w cs (en ys[i]) ∧ (Light P E elems[i].1 → ok ys[i])) := by
   intro m
   induction m with
   | zero => intro _; exact ⟨[], rfl, fun i hi => by simp at hi⟩
   | succ m ih =>
    intro hm'
    obtain ⟨ys, hys, hall⟩ := ih (by omega)
    obtain ⟨cs, y, g1, g2, g3, g4⟩ := key m (by omega)
    refine ⟨ys ++ [y], by simp [hys], fun i hi hi2 => ?_⟩
    by_cases him : i < ys.length
    ·rw [List.getElem_append_left him]
     exact hall i him hi2
    ·have : i = m := by simp at hi; omega
     subst this
     have e1 : (ys ++ [y])[i] = y := by
      rw [List.getElem_append_right (by omega)]
      simp
     rw [e1]
     exact ⟨cs, g1, g2, g3, g4⟩
  obtain ⟨ys, hys, hall⟩ := pick elems.length (Nat.le_refl _)
  refine ⟨ys, Rd.one ?_, fun hli => ?_⟩
  ·have hlen' : len = ys.length := by omega
   subst hlen'
   have hml : ys.length = (ys.map en).length := by simp
   rw [hml]
   refine .sl (fun i j => (w.cell? (a.add (i * P.cellsOf E + j))).getD default) (by simpa using hl) hm (fun e he => ?_) (fun _ => ⟨a, rfl⟩) (fun a' ha' i j hi hj => ?_) (fun i j hi hj => ?_)
   ·obtain ⟨y, _, rfl⟩ := List.mem_map.1 he
    exact hlen y
   ·cases ha'
    obtain ⟨cs, g1, g2, _⟩ := hall i (by simpa using hi) (by simp at hi; omega)
    rw [g2 j (by omega)]
    exact ⟨trivial, rfl⟩
   ·obtain ⟨cs, g1, g2, g3, _⟩ := hall i (by simpa using hi) (by simp at hi; omega)
    simp only [List.getElem_map] at hj ⊢
    have hjc : j < cs.length := by rw [g3.1]; exact hj
    rw [g2 j hjc]
    exact g3.2 j hjc hj
  ·obtain ⟨w1, w2⟩ := light_slice h hli
   refine ⟨fun y hy => ?_, by simpa [hys] using w1⟩
   obtain ⟨i, hi, rfl⟩ := List.getElem_of_mem hy
   obtain ⟨_, _, _, _, h4⟩ := hall i hi (by omega)
   exact h4 (w2 _ (List.mem_map.2 ⟨_, List.getElem_mem _, rfl⟩))
structure Gr.Big (g : Gr) : Prop where
 n : g.nodes.length ≤ bigN
 e : g.edges.length ≤ bigN
end Go.AM
namespace Go.AM
open Go Go.Proofs Go.ChangeShapes
def Rdr.arr3 {P : Program} {T A : TypeId} {α : Type} (r : Rdr P A α) (h : P.underlying T = some (.array 3 A)) (hc : P.cellsOf T = P.cellsOf A + P.cellsOf A + P.cellsOf A) : Rdr P T (α × α × α) where
 enc x := r.enc x.1 ++ (r.enc x.2.1 ++ r.enc x.2.2)
 ok x := r.ok x.1 ∧ r.ok x.2.1 ∧ r.ok x.2.2
 len x := by simp [r.len, hc]; omega
 sound e w base spare held fuel cs x hx := by
  obtain ⟨xs, n, rfl, rfl, hl, hxs, hat⟩ := DataW.trod_array h hx
  have g0 := hat 0 (by decide)
  have g1 := hat 1 (by decide)
  have g2 := hat 2 (by decide)
  have e0 : xs[0]? = some (xs[0]'(by omega)) := List.getElem?_eq_getElem (by omega)
  have e1 : xs[1]? = some (xs[1]'(by omega)) := List.getElem?_eq_getElem (by omega)
  have e2 : xs[2]? = some (xs[2]'(by omega)) := List.getElem?_eq_getElem (by omega)
  rw [e0, Nat.zero_mul] at g0
  rw [e1, Nat.one_mul] at g1
  rw [e2, show 2 * P.cellsOf A = P.cellsOf A + P.cellsOf A by omega] at g2
  obtain ⟨y, k1, k2⟩ := r.sound e w base spare held n _ _ g0
  obtain ⟨z, m1, m2⟩ := r.sound e w base spare held n _ _ g1
  obtain ⟨q, p1, p2⟩ := r.sound e w base spare held n _ _ g2
  refine ⟨(y, z, q), ?_, fun hli => ?_⟩
  rotate_left
  ·unfold Light at hli k2 m2 p2
   have e2 : xs = [xs[0]'(by omega), xs[1]'(by omega), xs[2]'(by omega)] := list3 hxs
   rw [e2] at hli
   simp only [List.map_cons, List.map_nil, DataW.weights, h, DataW.weightsAll, List.all_append, Bool.and_eq_true] at hli
   exact ⟨k2 hli.1, m2 hli.2.1, p2 hli.2.2.1⟩
  have hcs : cs = (cs.drop 0).take (P.cellsOf A) ++ ((cs.drop (P.cellsOf A)).take (P.cellsOf A) ++ (cs.drop (P.cellsOf A + P.cellsOf A)).take (P.cellsOf A)) := by
   have : (cs.drop (P.cellsOf A + P.cellsOf A)).take (P.cellsOf A) = cs.drop (P.cellsOf A + P.cellsOf A) := List.take_of_length_le (by simp; omega)
   rw [this, ← List.drop_drop, List.take_append_drop, List.drop_zero, List.take_append_drop]
  rw [hcs]
  exact k1.append (m1.append p1)
def rdB : Rdr Tryz.prog 5 Int := Rdr.int (k := .u8) Tryz.underlying5 (by kernel_rfl)
theorem rdB_ok {n : Int} (h : (Lit.int .u8 n).wf = true) : 0 ≤ n ∧ n < 256 := by
 simp [Lit.wf, IntKind.min, IntKind.max, IntKind.signed, IntKind.bits] at h
 omega
def rdBs : Rdr Tryz.prog 56 (List Int) := rdB.sliceN 1 Tryz.underlying56 (by kernel_rfl) (by kernel_rfl)
theorem rdBs_ok {l : List Int} (h : rdBs.ok l) : U8s l := fun c hc => rdB_ok (h.1 c hc)
def rdB3 : Rdr Tryz.prog 215 (Int × Int × Int) := rdB.arr3 Tryz.underlying215 (by kernel_rfl)
def rdB3s : Rdr Tryz.prog 57 (List (Int × Int × Int)) := rdB3.sliceN 3 Tryz.underlying57 (by kernel_rfl) (by kernel_rfl)
def rdDraft0 : Rdr Tryz.prog 59 (List Int × List (Int × Int × Int)) := Rdr.struct2 rdBs rdB3s Tryz.underlying59 rfl rfl rfl (by kernel_rfl) (by kernel_rfl)
abbrev Ch.cells (x : Ch) : List D := [.sl 1 (x.a.nodes.map fun n => [u8 n]), .sl 3 (x.a.edges.map fun e => [u8 e.1, u8 e.2.1, u8 e.2.2]), bytes x.b, bytes x.g, bytes x.c]
end Go.AM
namespace Go.AM
open Go Go.Proofs Go.ChangeShapes
def Rdr.str {P : Program} {T : TypeId} (h : P.underlying T = some .string) (hc : P.cellsOf T = 1) : Rdr P T ByteArray where
 enc n := [.raw (.string n)]
 ok n := n.size ≤ maxLen
 len _ := by simp [hc]
 sound e w base spare held fuel cs x hx := by
  cases fuel with
  | zero => simp [DataW.trod] at hx
  | succ n =>
   unfold DataW.trod at hx
   rw [h] at hx
   split at hx <;> simp_all
   exact ⟨_, Rd.one (.raw rfl), fun _ => hx.1⟩
def Rdr.bool {P : Program} {T : TypeId} (h : P.underlying T = some .bool) (hc : P.cellsOf T = 1) : Rdr P T Bool where
 enc n := [.raw (.bool n)]
 ok n := True
 len _ := by simp [hc]
 sound e w base spare held fuel cs x hx := by
  cases fuel with
  | zero => simp [DataW.trod] at hx
  | succ n =>
   unfold DataW.trod at hx
   rw [h] at hx
   split at hx <;> first | (simp_all; done) | skip
   exact ⟨_, Rd.one (.raw rfl), fun _ => trivial⟩
end Go.AM
namespace Go.AM
open Go Go.Proofs Go.ChangeShapes
end Go.AM
namespace Go.AM
open Go Go.Proofs Go.ChangeShapes
structure Dx where
 left : Dr
 keep : Int
 more : List Int
structure Dx.U8 (x : Dx) : Prop where
 l : x.left.U8
 m : U8s x.more
 ml : x.more.length ≤ 200000000000000
 nl : x.left.nodes.length ≤ 200000000000000
 el : x.left.edges.length ≤ 200000000000000
structure Scn where
 r : Dx
 codes : List Int
 more : List Int
structure Scn.U8 (x : Scn) : Prop where
 r : x.r.U8
 c : U8s x.codes
 m : U8s x.more
 ml : x.more.length ≤ 200000000000000
abbrev u64 (n : Int) : D := .raw (.int .u64 n)
abbrev Dx.cells (x : Dx) : List D := [.sl 1 (x.left.nodes.map fun n => [u8 n]), .sl 3 (x.left.edges.map fun e => [u8 e.1, u8 e.2.1, u8 e.2.2]), u64 x.keep, bytes x.more]
abbrev Scn.cells (x : Scn) : List D := [.sl 1 (x.r.left.nodes.map fun n => [u8 n]), .sl 3 (x.r.left.edges.map fun e => [u8 e.1, u8 e.2.1, u8 e.2.2]), u64 x.r.keep, bytes x.r.more, bytes x.codes, bytes x.more]
abbrev Dx.av (x : Dx) : AV := .agg [.d (.sl 1 (x.left.nodes.map fun n => [u8 n])), .d (.sl 3 (x.left.edges.map fun e => [u8 e.1, u8 e.2.1, u8 e.2.2])), .d (u64 x.keep), .d (bytes x.more)]
abbrev Scn.av (x : Scn) : AV := .agg [.d (.sl 1 (x.r.left.nodes.map fun n => [u8 n])), .d (.sl 3 (x.r.left.edges.map fun e => [u8 e.1, u8 e.2.1, u8 e.2.2])), .d (u64 x.r.keep), .d (bytes x.r.more), .d (bytes x.codes), .d (bytes x.more)]
def rdU64 : Rdr Tryz.prog 60 Int := Rdr.int (k := .u64) Tryz.underlying60 (by kernel_rfl)
theorem by_u8 : Tryz.prog.bytesOf 5 = 1 := by kernel_rfl
theorem by_u83 : Tryz.prog.bytesOf 215 = 3 := by kernel_rfl
theorem rdBs_len {l : List Int} (h : rdBs.ok l) : l.length ≤ 200000000000000 := by
 have h2 : l.length * Tryz.prog.bytesOf 5 ≤ reachBytes := h.2
 rw [by_u8] at h2
 have : reachBytes = 140737488351232 := rfl
 omega
theorem rdB3s_len {l : List (Int × Int × Int)} (h : rdB3s.ok l) : l.length ≤ 200000000000000 := by
 have h2 : l.length * Tryz.prog.bytesOf 215 ≤ reachBytes := h.2
 rw [by_u83] at h2
 have : reachBytes = 140737488351232 := rfl
 omega
def rdDr0 : Rdr Tryz.prog 59 Dr := rdDraft0.map (fun x => ⟨x.1, x.2⟩) (fun x => [.sl 1 (x.nodes.map fun n => [u8 n]), .sl 3 (x.edges.map fun e => [u8 e.1, u8 e.2.1, u8 e.2.2])]) (fun x => x.U8 ∧ x.nodes.length ≤ 200000000000000 ∧ x.edges.length ≤ 200000000000000) (fun _ => rfl)
 (fun x h => ⟨⟨fun k hk => rdB_ok (h.1.1 k hk), fun k hk => ⟨rdB_ok (h.2.1 k hk).1, rdB_ok (h.2.1 k hk).2.1, rdB_ok (h.2.1 k hk).2.2⟩⟩, rdBs_len h.1, rdB3s_len h.2⟩) (fun _ => by kernel_rfl)
def rdDx0 : Rdr Tryz.prog 62 (Dr × Int × List Int) := Rdr.struct3 rdDr0 rdU64 rdBs Tryz.underlying62 rfl rfl rfl rfl (by kernel_rfl) (by kernel_rfl) (by kernel_rfl)
def rdDx : Rdr Tryz.prog 62 Dx := rdDx0.map (fun x => ⟨x.1, x.2.1, x.2.2⟩) Dx.cells Dx.U8 (fun _ => rfl) (fun x h => ⟨h.1.1, rdBs_ok h.2.2, rdBs_len h.2.2, h.1.2.1, h.1.2.2⟩) (fun _ => by kernel_rfl)
def rdScn0 : Rdr Tryz.prog 64 (Dx × List Int × List Int) := Rdr.struct3 rdDx rdBs rdBs Tryz.underlying64 rfl rfl rfl rfl (by kernel_rfl) (by kernel_rfl) (by kernel_rfl)
def rdScn : Rdr Tryz.prog 64 Scn := rdScn0.map (fun x => ⟨x.1, x.2.1, x.2.2⟩) Scn.cells Scn.U8 (fun _ => rfl) (fun x h => ⟨h.1, rdBs_ok h.2.1, rdBs_ok h.2.2, rdBs_len h.2.2⟩) (fun _ => by kernel_rfl)
set_option maxRecDepth 100000 in
theorem arg_scene {ps : Array TypeId} {args : Array Value} {W : World} {base base' : Nat} {sp : Nat → Bool} {held : Bool} {H : Type} {enc : TypeId × Value → H} (hval : ∀ (j : Nat) t v, ps[j]? = some t → args[j]? = some v → Value.okWide Tryz.prog W .any base t v)
  (j : Nat) (v : Value) (hp : ps[j]? = some 64) (ha : args[j]? = some v) {d : DataW H} {p : List MemPlace} (h : DataW.Trod enc Tryz.prog W base' sp held 64 v d p) (hli : Light Tryz.prog 64 d) : ∃ x : Scn, x.U8 ∧ RV G0 W x.av v :=
 Exists.elim (arg_agg hval j 64 v hp ha rdScn aggT_64 h hli) fun x hx => ⟨x, hx.1, hx.2⟩
def bitV (S : Int) (j : Nat) : Bool := (IntKind.u64.wrap ((((S.fdiv (2 ^ min (((j : Int) % 64)).toNat IntKind.u64.bits) % 2 ^ IntKind.u64.bits).toNat &&& (1 % 2 ^ IntKind.u64.bits) : Nat) : Int)) == 1)
def Dx.dr (x : Dx) : Dr := ⟨x.left.nodes.take (min x.left.nodes.length 3), x.left.edges.take (min x.left.edges.length 3)⟩
def Dx.g (x : Dx) : Gr := madeG x.dr
def mad7 (g : Gr) (S : Int) : Mo := lstP g (bitV S) (fun j => bitV S (g.nodes.length + j))
def Dx.k (x : Dx) : Mo := mad7 x.g x.keep
def Dx.cs (x : Dx) : List Int := 255 :: x.more.take (min x.more.length 6)
def Dx.right (x : Dx) : Gr := gwG (exG x.g x.k) x.cs
def Dx.sp (x : Dx) : Sp := ⟨x.g, x.right, x.k, idM (exG x.g x.k)⟩
def scS (g : Gr) (a b c : Int) : Gr :=
 ⟨if a % 2 = 0 then g.nodes ++ [b % 3] else g.nodes, if 0 < (if a % 2 = 0 then g.nodes ++ [b % 3] else g.nodes).length ∧ 0 < a % 3 then g.edges ++ [⟨a / 8 % 2, b / 4 % (if a % 2 = 0 then g.nodes ++ [b % 3] else g.nodes).length, c % (if a % 2 = 0 then g.nodes ++ [b % 3] else g.nodes).length⟩] else g.edges⟩
def scK (g : Gr) (cs : List Int) : Nat → Gr
 | 0 => g
 | j + 1 => scS (scK g cs j) (cs.getD (3 * j) 0) (cs.getD (3 * j + 1) 0) (cs.getD (3 * j + 2) 0)
def scN (cs : List Int) : Nat := min 3 (cs.length / 3)
def Scn.g (x : Scn) : Gr := scK x.r.g x.more (scN x.more)
theorem scS_gw {l g : Gr} {n m : Nat} (h : Gw l g n m) (a b c : Int) : Gw l (scS g a b c) (n + 1) (m + 1) := by
 have key : ∀ N : List Int, Gw l ⟨N, g.edges⟩ (n + 1) m → Gw l ⟨N, if 0 < N.length ∧ 0 < a % 3 then g.edges ++ [⟨a / 8 % 2, b / 4 % N.length, c % N.length⟩] else g.edges⟩ (n + 1) (m + 1) := fun N hN => by
  split
  ·rename_i hc
   have hnz : (N.length : Int) ≠ 0 := by omega
   have hp : (0 : Int) < N.length := by omega
   exact hN.edge ⟨by simp only; omega, by simp only; omega⟩ ⟨Int.emod_nonneg _ hnz, Int.emod_lt_of_pos _ hp⟩ ⟨Int.emod_nonneg _ hnz, Int.emod_lt_of_pos _ hp⟩
  ·exact hN.mono (Nat.le_refl _) (Nat.le_succ _)
 refine key _ ?_
 split
 ·exact h.node (by omega)
 ·exact h.mono (Nat.le_succ _) (Nat.le_refl _)
theorem scK_gw (g : Gr) (cs : List Int) : ∀ j, Gw g (scK g cs j) j j
 | 0 => Gw.refl g
 | j + 1 => scS_gw (scK_gw g cs j) _ _ _
structure Dx.Ok (x : Dx) : Prop where
 v : validG x.g = 0
 i : InK x.g
 n : x.g.nodes.length ≤ 3
 e : x.g.edges.length ≤ 3
 k : VP x.g x.k
 w : Gw (exG x.g x.k) x.right 4 8
theorem Dx.U8.dr {x : Dx} (h : x.U8) : x.dr.U8 := ⟨fun k hk => h.l.n k (List.mem_of_mem_take hk), fun k hk => h.l.e k (List.mem_of_mem_take hk)⟩
theorem Dx.U8.cs {x : Dx} (h : x.U8) : U8s x.cs := fun k hk => by
 rcases List.mem_cons.1 hk with rfl | hk
 ·exact ⟨by decide, by decide⟩
 ·exact h.m k (List.mem_of_mem_take hk)
theorem Dx.ok {x : Dx} (h : x.U8) : x.Ok := by
 have hv := madeG_valid h.dr
 have hl : x.g.nodes.length ≤ 3 ∧ x.g.edges.length ≤ 3 := by
  refine ⟨by simp only [Dx.g, Dx.dr, madeG, mN_len, List.length_take]; omega, ?_⟩
  have hl : x.dr.edges.length ≤ 3 := by simp only [Dx.dr, List.length_take]; omega
  simp only [Dx.g, madeG]
  by_cases h0 : x.dr.nodes.length = 0
  ·rw [if_pos h0]; simp
  ·rw [if_neg h0]; simp only [mE_len]; omega
 exact ⟨hv, madeG_in _, hl.1, hl.2, lstP_vp hv, gwG_gw _ _⟩
structure Stg (s : Sp) (g : Gr) : Prop where
 k : VP s.l s.k
 i : s.i = idM (exG s.l s.k)
 kr : Pre (exG s.l s.k) s.r
 lg : Pre s.l g
 n : s.l.nodes.length ≤ 3
 e : s.l.edges.length ≤ 3
 rn : s.r.nodes.length ≤ 7
 re : s.r.edges.length ≤ 11
 gn : g.nodes.length ≤ 6
 ge : g.edges.length ≤ 6
theorem Scn.stg {x : Scn} (h : x.U8) : Stg x.r.sp x.g ∧ InK x.r.g ∧ InK x.r.right ∧ InK x.g := by
 have o := Dx.ok h.r
 have hk := o.k.len
 have he : (exG x.r.g x.r.k).nodes.length = x.r.k.nodes.length ∧ (exG x.r.g x.r.k).edges.length = x.r.k.edges.length := by simp [exG]
 have w := o.w.len
 have hw2 := scK_gw x.r.g x.more (scN x.more)
 have hs : scN x.more ≤ 3 := Nat.min_le_left _ _
 have w2 := hw2.len
 have hon := o.n
 have hoe := o.e
 refine ⟨⟨o.k, rfl, o.w.pre o.k.emb.vm.va (by omega) (by omega), hw2.pre o.v (by omega) (by omega), o.n, o.e, ?_, ?_, ?_, ?_⟩, o.i, o.w.inK (exG_in o.k o.i), hw2.inK o.i⟩
 ·show x.r.right.nodes.length ≤ 7
  omega
 ·show x.r.right.edges.length ≤ 11
  omega
 ·show (scK x.r.g x.more (scN x.more)).nodes.length ≤ 6
  omega
 ·show (scK x.r.g x.more (scN x.more)).edges.length ≤ 6
  omega
theorem Stg.spok {s : Sp} {g : Gr} (h : Stg s g) : SpOk s := ⟨h.k, by rw [h.i]; exact h.kr.emb⟩
theorem Stg.up {s : Sp} {g : Gr} (h : Stg s g) (hl : InK s.l) (hr : InK s.r) (hg : InK g) : Stg ⟨upG s.l, upG s.r, s.k, s.i⟩ (upG g) := by
 have hk := upG_vp h.k hl
 have e := upG_ex h.k
 refine ⟨hk, ?_, ?_, upG_pre h.lg hl hg, by rw [upG_len]; exact h.n, h.e, by rw [upG_len]; exact h.rn, h.re, by rw [upG_len]; exact h.gn, h.ge⟩
 ·show s.i = idM (exG (upG s.l) s.k)
  rw [e, upG_id, h.i]
 ·show Pre (exG (upG s.l) s.k) (upG s.r)
  rw [e]
  exact upG_pre h.kr (exG_in h.k hl) hr
end Go.AM
namespace Go.AM
open Go Go.Proofs
def behD (s : Sp) (g : Gr) (m : Mo) : Mo := cmpl g s.k m
def behO (s : Sp) (g : Gr) (m : Mo) : Ov := pushO s.r (exG g (behD s g m)) s.i (liftM (behD s g m) (thenM s.k m))
def behR (s : Sp) (g : Gr) (m : Mo) : (Gr × Mo) × Bool :=
 if dangL g s.k m = true then ((⟨[], []⟩, ⟨[], []⟩), false) else if poBig s.r (exG g (behD s g m)) then ((⟨[], []⟩, ⟨[], []⟩), false) else (((behO s g m).g, (behO s g m).l), true)
theorem keep_sub {l g : Gr} {k m : Mo} (hk : VP l k) (hm : Emb l g m) : (∀ v ∈ (thenM k m).nodes, v ∈ (cmpl g k m).nodes) ∧ ∀ v ∈ (thenM k m).edges, v ∈ (cmpl g k m).edges := by
 have key : ∀ (F images : List Int) (n w : Nat), images.Nodup → images.length = n → (∀ x ∈ F, 0 ≤ x ∧ x < n) → (∀ x ∈ images, 0 ≤ x ∧ x < w) → ∀ x ∈ byK F images F.length, x ∈ restI w images F := fun F images n w hn hi rF hr x hx => by
  obtain ⟨i, hi', rfl⟩ := mem_getD hx
  rw [byK_all] at hi'
  rw [byK_getD hi']
  have h0 := getD_mem (d := 0) hi'
  have h1 := rF _ h0
  have h2 : (F.getD i 0).toNat < images.length := by omega
  refine restI_mem.2 ⟨hr _ (getD_mem (d := 0) h2), kept_not_gone hn h2 ?_⟩
  rw [show (((F.getD i 0).toNat : Nat) : Int) = F.getD i 0 by omega]; exact h0
 exact ⟨key _ _ _ _ hm.n hm.vm.ln hk.n hm.vm.n, key _ _ _ _ hm.e hm.vm.le hk.e hm.vm.e⟩
theorem beh_emb {s : Sp} {g : Gr} {m : Mo} (hs : SpOk s) (hm : Emb s.l g m) (hd : dangL g s.k m = false) : VP g (behD s g m) ∧ Emb (exG s.l s.k) (exG g (behD s g m)) (liftM (behD s g m) (thenM s.k m)) := by
 have hv := cmpl_vp hm hs.k hd
 have hsub := keep_sub hs.k hm
 exact ⟨hv, lift_emb hv.emb (hs.k.emb.comp hm) hsub.1 hsub.2⟩
theorem keep_at {l : Gr} {k : Mo} (hk : VP l k) : (∀ a, a < l.nodes.length → ((a : Int) ∈ k.nodes ↔ ∃ j, j < (exG l k).nodes.length ∧ atN k.nodes j = a)) ∧ ∀ a, a < l.edges.length → ((a : Int) ∈ k.edges ↔ ∃ j, j < (exG l k).edges.length ∧ atN k.edges j = a) := by
 have key : ∀ (F : List Int) (n w : Nat), (∀ x ∈ F, 0 ≤ x ∧ x < n) → F.length = w → ∀ a : Nat, a < n → ((a : Int) ∈ F ↔ ∃ j, j < w ∧ atN F j = a) := fun F n w hr hw a ha => by
  constructor
  ·intro h
   obtain ⟨j, j1, j2⟩ := mem_getD h
   exact ⟨j, by omega, by unfold atN; rw [j2]; rfl⟩
  ·rintro ⟨j, j1, j2⟩
   have h1 := getD_mem (d := 0) (show j < F.length by omega)
   have h2 := hr _ h1
   have : (a : Int) = F.getD j 0 := by rw [← j2]; unfold atN; omega
   rw [this]; exact h1
 exact ⟨key _ _ _ hk.n (by simp [exG]), key _ _ _ hk.e (by simp [exG])⟩
theorem beh_stp {s : Sp} {g : Gr} {m : Mo} (hs : SpOk s) (hm : Emb s.l g m) (hc : (behR s g m).2 = true) : ∃ FN FE, Stp s.l s.r g (behR s g m).1.1 m (behR s g m).1.2 s.KN s.KE FN FE := by
 unfold behR at hc ⊢
 split at hc
 ·cases hc
 ·rename_i hd
  rw [if_neg hd]
  have hd' : dangL g s.k m = false := by simpa using hd
  split at hc
  ·cases hc
  ·rename_i hb
   rw [if_neg hb]
   simp only
   obtain ⟨hz, hg⟩ := beh_emb hs hm hd'
   have hsub := keep_sub hs.k hm
   obtain ⟨k1, k2⟩ := keep_at hs.k
   have t := po_stp hs.i hg hs.k.emb hm hz.emb (lift_then (q := behD s g m) hsub.1 hsub.2).symm (by unfold poBig at hb; omega) (by
    have := rest_img (n := g.nodes.length) hm.vm.ln hm.vm.n k1
    simpa [exG, behD, cmpl] using this) (by
    have := rest_img (n := g.edges.length) hm.vm.le hm.vm.e k2
    simpa [exG, behD, cmpl] using this)
   have t := t.symm
   have l1 : s.i.nodes.length = s.k.nodes.length := by rw [hs.i.vm.ln, hs.k.emb.vm.ln]
   have l2 : s.i.edges.length = s.k.edges.length := by rw [hs.i.vm.le, hs.k.emb.vm.le]
   rw [kap_flip l1, kap_flip l2] at t
   exact ⟨_, _, t⟩
theorem ru_str {s : Sp} (h : SpOk s) (va : validG s.l = 0) (vb : validG s.r = 0) : strR s.ru = 0 := by
 have e1 : validG s.ru.lg = 0 := va
 have e2 : validG s.ru.rg = 0 := vb
 have e3 : validP s.ru.lg s.ru.k = 0 := h.k.v
 have e4 : validM (exG s.ru.lg s.ru.k) s.ru.rg s.ru.i = 0 := h.i.v
 have e5 : injM (exG s.ru.lg s.ru.k) s.ru.rg s.ru.i = true := h.i.inj
 unfold strR
 rw [if_neg (by simp [e1]), if_neg (by simp [e2]), if_neg (by simp [e3]), if_neg (by simp [e4]), if_neg (by simp [e5]), if_pos]
 exact ⟨⟨rfl, rfl⟩, ⟨rfl, rfl⟩, rfl⟩
theorem ru_fit {s : Sp} (h : SpOk s) (va : validG s.l = 0) (vb : validG s.r = 0) : s.ru.Fit := by
 obtain ⟨fl, fr, fk, fi⟩ := h.fit
 exact ⟨fl, fr, fk, fi, by rw [bigN_eq]; simp [Sp.ru], by rw [bigN_eq]; simp [Sp.ru], by rw [bigN_eq]; simp [Sp.ru], by rw [bigN_eq]; simp [Sp.ru]⟩
structure BehL (s : Sp) (g : Gr) (c : Cd) (R : Cd × Int) (l r : Gr) (m n : Mo) (h : Gr) (v : Bool) : Prop where
 z : R.2 = 0
 f : R.1.Fit
 s1 : satR l R.1 g m = (v, 0)
 s2 : satR r c h n = (v, 0)
theorem behind_law {s : Sp} {g : Gr} {cs : List Int} (st : Stg s g) (hu : U8s cs) (hc : (behR s g (idM s.l)).2 = true) (h3 : s.r.nodes.length ≤ 3) (h2 : s.r.edges.length ≤ 2) :
  Emb s.r (behR s g (idM s.l)).1.1 (behR s g (idM s.l)).1.2 ∧ (madeR s.r cs).Fit ∧ ∃ v, BehL s g (madeR s.r cs) (leftR s.ru (madeR s.r cs)) s.l s.r (idM s.l) (behR s g (idM s.l)).1.2 (behR s g (idM s.l)).1.1 v := by
 have hs := st.spok
 have hm := st.lg.emb
 have va := hm.vm.va
 have vb := hs.i.vm.vb
 obtain ⟨FN, FE, t⟩ := beh_stp hs hm hc
 have hok := madeR_ok hu vb (show s.r.nodes.length ≤ 10 by omega) (by omega)
 have hn := st.n
 have he := st.e
 have L := step_law hs t hok (madeR_gb cs) (by omega) (by omega)
 have e : leftR s.ru (madeR s.r cs) = movR s (madeR s.r cs) := by
  unfold leftR
  rw [if_neg (by simp [ru_str hs va vb])]
  rfl
 rw [e]
 exact ⟨t.en, hok.fit, _, ⟨L.1, L.2.1, L.2.2.1, L.2.2.2⟩⟩
theorem ahead_law {s : Sp} {g : Gr} {cs : List Int} (st : Stg s g) (hu : U8s cs) (hc : (behR s g (idM s.l)).2 = true) (h2 : s.l.edges.length ≤ 2) :
  Emb s.r (behR s g (idM s.l)).1.1 (behR s g (idM s.l)).1.2 ∧ (madeR s.l cs).Fit ∧ ∃ v, BehL s (behR s g (idM s.l)).1.1 (madeR s.l cs) (rightR s.ru (madeR s.l cs)) s.r s.l (behR s g (idM s.l)).1.2 (idM s.l) g v := by
 have hs := st.spok
 have hm := st.lg.emb
 have va := hm.vm.va
 have vb := hs.i.vm.vb
 obtain ⟨FN, FE, t⟩ := beh_stp hs hm hc
 have hn := st.n
 have hr := st.rn
 have he := st.re
 have hok := madeR_ok hu va (show s.l.nodes.length ≤ 10 by omega) (by omega)
 have ts := t.symm
 obtain ⟨i1, i2⟩ := Sp.inv_kap hs
 rw [← i1, ← i2] at ts
 have L := step_law (s := s.inv) (Sp.inv_ok hs) ts hok (madeR_gb cs) (by show s.r.nodes.length + (s.l.nodes.length + 2) * 2 ≤ 40; omega) (by show s.r.edges.length + (s.l.edges.length + 2) * 2 ≤ 80; omega)
 have e : rightR s.ru (madeR s.l cs) = movR s.inv (madeR s.l cs) := by
  unfold rightR
  rw [if_neg (by simp [ru_str hs va vb])]
  rfl
 rw [e]
 exact ⟨t.en, hok.fit, _, ⟨L.1, L.2.1, L.2.2.1, L.2.2.2⟩⟩
end Go.AM
namespace Go.AM
open Go Go.Proofs
set_option maxRecDepth 100000 in
theorem behind34_c (s : Sp) (g : Gr) (m : Mo) (hs : SpOk s) (hm : Emb s.l g m) (tok : Tks) (nt : Nat) :
  DCall Tryz.prog 26 [s.ru.av, g.av, m.av] tok nt (.tup [(behR s g m).1.1.av, (behR s g m).1.2.av, B (behR s g m).2]) tok nt := by
 intro box nb
 obtain ⟨fl, fr, fk, fi⟩ := hs.fit
 obtain ⟨fm, _, fg⟩ := hm.fit
 have vm := hm.vm
 have hvg := (validG_types vm.vb).1
 have hC := ofP_c s.l g s.k m fl fg fm fk hm hs.k
 refine sB Tryz.func26 Tryz.ntmps26 ?_
 intro hbox htok
 simp only at hbox htok
 apply AL.start
 try (simp)
 repeat (refine sR ?_; simp)
 refine Stop.of_d (hC _ _) ?_
 simp
 by_cases hd : dangL g s.k m = true
 ·have e : cmpR s.l g s.k m = (⟨[], []⟩, 14) := if_pos hd
  have e2 : behR s g m = ((⟨[], []⟩, ⟨[], []⟩), false) := if_pos hd
  rw [e, e2]
  try (simp)
  repeat (refine sR ?_; simp)
  refine sC ?_
  simp
  try (simp)
  repeat (refine sR ?_; simp)
  refine sT ?_
  try simp only [AU]
  refine ⟨by simp, sF hbox htok (fun _ h => h) (Nat.le_refl _) ?_⟩
  simp [packA, ints, AM.edges]
 ·have hd' : dangL g s.k m = false := by simpa using hd
  have e : cmpR s.l g s.k m = (behD s g m, 0) := if_neg hd
  rw [e]
  obtain ⟨vz, hgo⟩ := beh_emb hs hm hd'
  have fz := vz.emb.fit.1
  have x1 := extract07_c g (behD s g m) fg fz vz
  have x2 := extract07_c s.l s.k fl fk hs.k
  have t0 := then63_c s.k m fk (by rw [vm.ln]; exact hs.k.n) (by rw [vm.le]; exact hs.k.e)
  have ft : (thenM s.k m).Fit := (hs.k.emb.comp hm).fit.1
  have vt : VM (exG s.l s.k) g (thenM s.k m) := (hs.k.emb.comp hm).vm
  have k1 := backOK (behD s g m).nodes g.nodes.length fz.n (by omega) (nodup_of_lt vz.sn)
  have k2 := backOK (behD s g m).edges g.edges.length fz.e (by omega) (nodup_of_lt vz.se)
  have a1 := through68_c (thenM s.k m).nodes (backL (behD s g m).nodes g.nodes.length) ft.n (by rw [backL_len]; exact vt.n)
  have a2 := through68_c (thenM s.k m).edges (backL (behD s g m).edges g.edges.length) ft.e (by rw [backL_len]; exact vt.e)
  rw [byK_back vt.n] at a1
  rw [byK_back vt.e] at a2
  have po := pushP_c (exG s.l s.k) s.r (exG g (behD s g m)) s.i (liftM (behD s g m) (thenM s.k m)) hs.i hgo
  have ego : liftM (behD s g m) (thenM s.k m) = ⟨(thenM s.k m).nodes.map (indexI (behD s g m).nodes), (thenM s.k m).edges.map (indexI (behD s g m).edges)⟩ := rfl
  have e3 : behR s g m = (((pushR s.r (exG g (behD s g m)) s.i (liftM (behD s g m) (thenM s.k m))).1.g, (pushR s.r (exG g (behD s g m)) s.i (liftM (behD s g m) (thenM s.k m))).1.l), decide ((pushR s.r (exG g (behD s g m)) s.i (liftM (behD s g m) (thenM s.k m))).2 = 0)) := by
   unfold behR pushR
   rw [if_neg hd]
   split
   ·rfl
   ·rfl
  obtain ⟨P, hP⟩ : ∃ P, pushR s.r (exG g (behD s g m)) s.i (liftM (behD s g m) (thenM s.k m)) = P := ⟨_, rfl⟩
  rw [e3]
  rw [hP] at po ⊢
  rw [ego] at po
  generalize thenM s.k m = T at *
  generalize behD s g m = Z at *
  try (simp)
  repeat (refine sR ?_; simp)
  refine sC ?_
  simp
  try (simp)
  repeat (refine sR ?_; simp)
  refine Stop.of_d (x2 _ _) ?_
  simp
  try (simp)
  repeat (refine sR ?_; simp)
  refine Stop.of_d (x1 _ _) ?_
  simp
  try (simp)
  repeat (refine sR ?_; simp)
  refine Stop.of_d (t0 _ _) ?_
  simp
  try (simp)
  repeat (refine sR ?_; simp)
  refine Stop.of_d (k1 _ _) ?_
  simp
  try (simp)
  repeat (refine sR ?_; simp)
  refine Stop.of_d (a1 _ _) ?_
  simp
  try (simp)
  repeat (refine sR ?_; simp)
  refine Stop.of_d (k2 _ _) ?_
  simp
  try (simp)
  repeat (refine sR ?_; simp)
  refine Stop.of_d (a2 _ _) ?_
  simp
  try (simp)
  repeat (refine sR ?_; simp)
  refine Stop.of_d (po _ _) ?_
  simp
  refine sN ?_
  refine AL.region2 follows_Tryz (Nat.le_refl _) (by kernel_rfl) (Side.of (by simp)) ?_
  simp
  refine sT ?_
  try simp only [AU]
  refine ⟨by simp, sF hbox htok (fun _ h => h) (Nat.le_refl _) ?_⟩
  simp [packA, beqD]
end Go.AM
namespace Go.Proofs.YtfgcpmeadeehhaaGreat.kt
open Go Go.Proofs Go.RowKit
theorem run_append_none {P : Program} {w : World} (base : Nat) (t ty e : TypeId) (i : TypeInfo) (size : Nat) (ht : P.underlying t = some (.slice e)) (hi : P.info? e = some i)
  (v : Value) (n c : Nat) (xs : List Value) (hown : w.ownsRow base e size v n xs) : (Builtin.append_ #[t, t] ty #[v, .slice none 0 c]).run P w = .ok v w := by
 rcases hown.2 with ⟨rfl, rfl⟩ | ⟨g, cap, cur, rfl, _, _, hnc, _⟩
 ·simp [Builtin.append_, run_underlying ht, sizeOf, typeInfo, hi, Builtin.lenOf, Builtin.firstCells]
 ·simp [Builtin.append_, run_underlying ht, sizeOf, typeInfo, hi, Builtin.lenOf, Builtin.firstCells, hnc, storeCells]
theorem append_src {P : Program} {w : World} {ops : Array Oper} {rest : List Oper} {o : Oper} {a : Act} {Q : Exit → Act → World → Prop} (hgd : o.guard = none) (s x : Operand) (t : TypeId)
  (ho : o.op = .call { callee := .builtin .append, args := #[s, x], argTypes := #[t, t] })
  (base : Nat) (e : TypeId) (i : TypeInfo) (z : Value) (size bytes : Nat) (ht : P.underlying t = some (.slice e)) (hi : P.info? e = some i) (hz : i.zero = some z)
  (hsize : i.size = size) (hby : i.bytes = bytes) (hzs : z.cells.size = size) (hsz : 0 < size)
  (v : Value) (n : Nat) (xs : List Value) (hs : a.eval s = v) (hown : w.ownsRow base e size v n xs)
  (A : Option Addr) (m c : Nat) (news : List Value) (hx : a.eval x = .slice A m c) (hl : news.length = m * size) (hA : A = none → m = 0) (hnews : ∀ ad, A = some ad → ∀ j u, news[j]? = some u → w.cell? (ad.add j) = some u) (h1 : ∀ u ∈ news, u.oneCell' = true)
  (h63 : n + m ≤ maxLen) (hbytes : (n + m) * bytes ≤ 140737488355328) (hbase : base ≤ w.heap.size)
  (h : ∀ v' w', w'.ownsRow base e size v' (n + m) (xs ++ news) → w.grownBy w' v.ownBlock → wpList P ops Q rest (a.put o.dst v') w') : wpList P ops Q (o :: rest) a w := by
 cases A with
 | some ad => exact wpList_append_own w hgd s x t ho base e i z size bytes ht hi hz hsize hby hzs hsz v n xs hs hown ad m c news hx hl (hnews ad rfl) h1 h63 hbytes hbase fun v' w' h2 h3 _ => h v' w' h2 h3
 | none =>
  obtain rfl := hA rfl
  have hn : news = [] := List.length_eq_zero_iff.1 (by omega)
  subst hn
  refine wpList_plain hgd fun K hK => ?_
  have hrun := run_append_none (P := P) (w := w) base t o.type e i size ht hi v n c xs hown
  unfold Oper.wp
  simp [execOp, ho, resolve, invoke, builtin, hs, hx, hrun, Result.andThen]
  exact hK _ _ (h v w (by simpa using hown) ⟨rfl, rfl, rfl, Nat.le_refl _, fun _ _ _ => rfl⟩)
theorem infoI : (Tryz.prog.info? 3).map (fun i => (i.zero, i.size, i.bytes)) = some (some (.int .i64 0), 1, 8) := by kernel_rfl
theorem infoB1 : (Tryz.prog.info? 4).map (fun i => (i.zero, i.size, i.bytes)) = some (some (.bool false), 1, 1) := by kernel_rfl
set_option maxHeartbeats 2000000 in
set_option maxRecDepth 100000 in
theorem marked_any (b off n c : Nat) (p : Nat → Bool) (w : World) (hn : n ≤ 1000000) (hb : b < w.heap.size) (hc : ∀ j, j < n → w.cell? ⟨b, off + j, none⟩ = some (.bool (p j))) :
  Calls Tryz.prog 235 #[.slice (some ⟨b, off, none⟩) n c] w fun e w' => ∃ v, e = .returned v ∧ w'.ownsRow w.heap.size 3 1 v (AM.mkL p n).length ((AM.mkL p n).map (Value.int .i64)) ∧ Below w.heap.size w w' := by
 obtain ⟨i0, hi, hz0, hz1, hz2⟩ := info_parts infoI
 go_enter Tryz.func235, Tryz.ntmps235
 go_wp2
 go_loopw [3, 4] (fun v i wr => ∃ k : Nat, k ≤ n ∧ i = .int .i64 k ∧ wr.ownsRow w.heap.size 3 1 v (AM.mkL p k).length ((AM.mkL p k).map (Value.int .i64)) ∧ Below w.heap.size w wr) (fun _ i _ => n - (intOf i).toNat)
 case atStart => exact ⟨0, Nat.zero_le _, rfl, World.ownsRow_nil _ _ _ _, Below.refl _ _⟩
 case round =>
  obtain ⟨k, hk, rfl, hown, hnx⟩ := hrel
  have hml := AM.mkL_len p k
  have hcx : k < n → wr.cell? ⟨b, off + k, none⟩ = some (.bool (p k)) := fun h => (hnx.cell (by exact hb)).trans (hc k (by omega))
  cases hbv : p k
  ·rw [hbv] at hcx
   have hst : AM.mkL p (k + 1) = AM.mkL p k := by rw [AM.mkL_succ, if_neg (by simp only [hbv]; decide)]
   go_wp2
   ·refine ⟨⟨k + 1, by omega, by simp, by rw [hst]; exact hown, hnx⟩, by simp [intOf]; omega⟩
   ·go_ret
    obtain rfl : k = n := by omega
    exact ⟨_, rfl, hown, hnx⟩
  ·rw [hbv] at hcx
   have hst : AM.mkL p (k + 1) = AM.mkL p k ++ [(k : Int)] := by rw [AM.mkL_succ, if_pos hbv]
   go_wp2_with (first
    | (at_builtin; refine wpList_append_own _ rfl _ _ 22 rfl w.heap.size 3 i0 (.int .i64 0) 1 8 Tryz.underlying22 hi hz0 hz1 hz2 rfl (by decide) _ _ _ rfl (hown.alloc _) ⟨wr.heap.size, 0, none⟩ 1 1 [.int .i64 k] rfl rfl ?c1 ?c2 ?c3 ?c4 ?c5 ?_)
    | go_in)
   case c1 =>
    intro j u hj
    match j, hj with
    | 0, hj => simp at hj; subst hj; simp [Addr.add]
   case c2 => intro u hu; simp at hu; subst hu; rfl
   case c3 => unfold maxLen; omega
   case c4 => omega
   case c5 => have := hnx.size; simp; omega
   ·intro v' w1 hown' hgrow
    intro _
    have hnx1 : Below w.heap.size w w1 := (hnx.alloc (by have := hnx.size; omega) _).grown hgrow (by have := hnx.size; simp; omega) (fun q hq => (hown.lt q hq).1)
    have hl2 : (AM.mkL p k).length + 1 = (AM.mkL p (k + 1)).length := by rw [hst]; simp
    have hxs : List.map (Value.int .i64) (AM.mkL p k) ++ [Value.int .i64 k] = (AM.mkL p (k + 1)).map (Value.int .i64) := by rw [hst, List.map_append]; rfl
    rw [hl2, hxs] at hown'
    go_wp2
    exact ⟨⟨k + 1, by omega, by simp, hown', hnx1⟩, by simp [intOf]; omega⟩
   ·go_ret
    obtain rfl : k = n := by omega
    exact ⟨_, rfl, hown, hnx⟩
set_option maxRecDepth 100000 in
theorem marked_zero (A : Option Addr) (c : Nat) (w : World) :
  Calls Tryz.prog 235 #[.slice A 0 c] w fun e w' => e = .returned (.slice none 0 0) ∧ w' = w := by
 go_enter Tryz.func235, Tryz.ntmps235
 go_wp2
 go_loopw [3, 4] (fun v i wr => v = .slice none 0 0 ∧ i = .int .i64 0 ∧ wr = w) (fun _ i _ => 0)
 case atStart => exact ⟨rfl, rfl, rfl⟩
 case round =>
  obtain ⟨rfl, rfl, rfl⟩ := hrel
  go_wp2
  go_ret
  exact ⟨rfl, rfl⟩
end Go.Proofs.YtfgcpmeadeehhaaGreat.kt
namespace Go.Proofs.YtfgcpmeadeehhaaGreat.kt
open Go Go.Proofs Go.RowKit
theorem owns_below {w w' : World} {base : Nat} {e : TypeId} {size : Nat} {v : Value} {n : Nat} {xs : List Value} (h : w.ownsRow base e size v n xs) (hb : Below w.heap.size w w') : w'.ownsRow base e size v n xs := by
 refine ⟨h.1, ?_⟩
 rcases h.2 with h0 | ⟨g, cap, cur, h1, h2, h3, h4⟩
 ·exact .inl h0
 ·exact .inr ⟨g, cap, cur, h1, h2, (hb.block g (Array.getElem?_eq_some_iff.1 h3).1).trans h3, h4⟩
theorem owns_setCell {w : World} {base : Nat} {e : TypeId} {size : Nat} {v : Value} {n : Nat} {xs : List Value} (h : w.ownsRow base e size v n xs) {p : Addr} (hp : p.block < base) (u : Value) : (w.setCell p u).ownsRow base e size v n xs := by
 refine ⟨h.1, ?_⟩
 rcases h.2 with h0 | ⟨g, cap, cur, h1, h2, h3, h4⟩
 ·exact .inl h0
 ·exact .inr ⟨g, cap, cur, h1, h2, (Below.heap_setCell _ _ _ _ (by omega)).trans h3, h4⟩
theorem owns_mono {w : World} {base base' : Nat} {e : TypeId} {size : Nat} {v : Value} {n : Nat} {xs : List Value} (h : w.ownsRow base e size v n xs) (hb : base' ≤ base) : w.ownsRow base' e size v n xs := by
 refine ⟨h.1, ?_⟩
 rcases h.2 with h0 | ⟨g, cap, cur, h1, h2, h3⟩
 ·exact .inl h0
 ·exact .inr ⟨g, cap, cur, h1, by omega, h3⟩
theorem owns_slice {w : World} {base : Nat} {e : TypeId} {size : Nat} {v : Value} {n : Nat} {xs : List Value} (h : w.ownsRow base e size v n xs) : ∃ A c, v = .slice A n c := by
 rcases h.2 with ⟨rfl, h0⟩ | ⟨g, cap, cur, h1, h2, h3⟩
 ·exact ⟨none, 0, by rw [h0]⟩
 ·exact ⟨_, _, h1⟩
theorem alloc_at (w : World) (o : Obj) : (w.alloc o).heap[w.heap.size]? = some o := by unfold World.alloc; exact Array.getElem?_push_size
theorem getD_map_bool {l : List Bool} {j : Nat} (h : j < l.length) : (l.map Value.bool)[j]? = some (.bool (l.getD j false)) := by
 simp [h]
set_option maxHeartbeats 4000000 in
set_option maxRecDepth 100000 in
theorem least_any (GN : Value) (be oe m ce bn on n cn bm om cm : Nat) (N E : List Bool) (fs ts : Nat → Nat) (w : World) (hn0 : 0 < n) (hn : n ≤ 1000000) (hm : m ≤ 1000000) (hN : N.length = n) (hE : E.length = m)
    (he : be < w.heap.size) (hbn : bn < w.heap.size) (hbm : bm < w.heap.size) (hf : ∀ j, j < m → fs j < n) (ht : ∀ j, j < m → ts j < n)
    (hce : ∀ j, j < m → w.cell? ⟨be, oe + j * 3 + 1, none⟩ = some (.int .i64 (fs j)) ∧ w.cell? ⟨be, oe + j * 3 + 2, none⟩ = some (.int .i64 (ts j)))
    (hcn : ∀ j, j < n → w.cell? ⟨bn, on + j, none⟩ = some (.bool (N.getD j false))) (hcm : ∀ j, j < m → w.cell? ⟨bm, om + j, none⟩ = some (.bool (E.getD j false))) :
    Calls Tryz.prog 199 #[.agg #[GN, .slice (some ⟨be, oe, none⟩) m ce], .slice (some ⟨bn, on, none⟩) n cn, .slice (some ⟨bm, om, none⟩) m cm] w fun e w' => ∃ v u, e = .returned (.agg #[v, u]) ∧
      w'.ownsRow w.heap.size 3 1 v (AM.mkL (fun k => (AM.lsK N E fs ts m).getD k false) n).length ((AM.mkL (fun k => (AM.lsK N E fs ts m).getD k false) n).map (Value.int .i64)) ∧
      w'.ownsRow w.heap.size 3 1 u (AM.mkL (fun k => E.getD k false) m).length ((AM.mkL (fun k => E.getD k false) m).map (Value.int .i64)) ∧ Below w.heap.size w w' := by
  obtain ⟨i0, hi, hz0, hz1, hz2⟩ := info_parts infoB1
  go_enter Tryz.func199, Tryz.ntmps199
  go_wp2_with (first
    | (at_builtin; refine append_src rfl _ _ 216 rfl (w.heap.size + 1 + 1) 4 i0 (.bool false) 1 1 Tryz.underlying216 hi hz0 hz1 hz2 rfl (by decide) _ 0 [] rfl ?c0 (some ⟨bn, on, none⟩) n cn (N.map Value.bool) rfl ?c1 ?c2 ?c3 ?c4 ?c5 ?c6 ?c7 ?_)
    | go_in)
  case c0 =>
    refine ⟨rfl, .inr ⟨w.heap.size + 1 + 1, 0, #[], rfl, Nat.le_refl _, ?_, Nat.le_refl _, Nat.zero_le _, rfl, rfl⟩⟩
    have h := alloc_at ((w.alloc (.cells #[GN, .slice (some ⟨be, oe, none⟩) m ce] 25)).alloc (.cells #[.slice none 0 0, .slice none 0 0] 31)) (.cells #[] 4)
    rw [show ((w.alloc (.cells #[GN, .slice (some ⟨be, oe, none⟩) m ce] 25)).alloc (.cells #[.slice none 0 0, .slice none 0 0] 31)).heap.size = w.heap.size + 1 + 1 by simp] at h
    exact h
  case c1 => rw [List.length_map, hN, Nat.mul_one]
  case c2 => intro h; cases h
  case c3 =>
    intro ad had j u hj
    cases had
    by_cases hjn : j < n
    · rw [getD_map_bool (by omega)] at hj
      cases hj
      have : (⟨bn, on, none⟩ : Addr).add j = ⟨bn, on + j, none⟩ := by
        unfold Addr.add
        split
        · rename_i e; subst e; rfl
        · rfl
      rw [this, ← hcn j hjn]
      exact ((((Below.refl w.heap.size w).alloc (Nat.le_refl _) _).alloc (by simp) _).alloc (by simp; omega) _).cell hbn
    · rw [List.getElem?_eq_none (by simp; omega)] at hj
      cases hj
  case c4 =>
    intro u hu
    obtain ⟨b, _, rfl⟩ := List.mem_map.1 hu
    rfl
  case c5 => unfold maxLen; omega
  case c6 => omega
  case c7 => simp
  intro v' w1 hown hg
  try simp only [Nat.zero_add, List.nil_append] at hown
  obtain ⟨g, cap, rfl, hg1, hg2⟩ := hown.form hn0
  have hA : Below w.heap.size w ((w.alloc (.cells #[GN, .slice (some ⟨be, oe, none⟩) m ce] 25)).alloc (.cells #[.slice none 0 0, .slice none 0 0] 31)) := ((Below.refl w.heap.size w).alloc (Nat.le_refl _) _).alloc (by simp) _
  have hAc : ((w.alloc (.cells #[GN, .slice (some ⟨be, oe, none⟩) m ce] 25)).alloc (.cells #[.slice none 0 0, .slice none 0 0] 31)).cell? ⟨w.heap.size, 1, none⟩ = some (.slice (some ⟨be, oe, none⟩) m ce) := by simp
  have hAs : ((w.alloc (.cells #[GN, .slice (some ⟨be, oe, none⟩) m ce] 25)).alloc (.cells #[.slice none 0 0, .slice none 0 0] 31)).heap.size = w.heap.size + 1 + 1 := by simp
  have hAx0 : ((w.alloc (.cells #[GN, .slice (some ⟨be, oe, none⟩) m ce] 25)).alloc (.cells #[.slice none 0 0, .slice none 0 0] 31)).cell? ⟨w.heap.size + 1, 0, none⟩ = some (.slice none 0 0) := by simp
  have hAx1 : ((w.alloc (.cells #[GN, .slice (some ⟨be, oe, none⟩) m ce] 25)).alloc (.cells #[.slice none 0 0, .slice none 0 0] 31)).cell? ⟨w.heap.size + 1, 1, none⟩ = some (.slice none 0 0) := by simp
  have hAz0 : ((w.alloc (.cells #[GN, .slice (some ⟨be, oe, none⟩) m ce] 25)).alloc (.cells #[.slice none 0 0, .slice none 0 0] 31)).frozen? ⟨w.heap.size + 1, 0, none⟩ = false := by simp
  have hAz1 : ((w.alloc (.cells #[GN, .slice (some ⟨be, oe, none⟩) m ce] 25)).alloc (.cells #[.slice none 0 0, .slice none 0 0] 31)).frozen? ⟨w.heap.size + 1, 1, none⟩ = false := by simp
  generalize hwA : ((w.alloc (.cells #[GN, .slice (some ⟨be, oe, none⟩) m ce] 25)).alloc (.cells #[.slice none 0 0, .slice none 0 0] 31)) = wA at *
  have hb1 : Below (w.heap.size + 1 + 1) wA w1 := ((Below.refl _ _).alloc (by omega) _).grown hg (by simp; omega) (by intro q hq; simp [Value.ownBlock] at hq; omega)
  clear hg hwA hcn
  go_wp2
  go_loopw [8] (fun i wr => ∃ k : Nat, k ≤ m ∧ i = .int .i64 k ∧ wr.ownsRow (w.heap.size + 1 + 1) 4 1 (.slice (some ⟨g, 0, none⟩) n cap) n ((AM.lsK N E fs ts k).map Value.bool) ∧ Below (w.heap.size + 1 + 1) wA wr) (fun i _ => m - (intOf i).toNat)
  case atStart => exact ⟨0, Nat.zero_le _, rfl, hown, hb1⟩
  case round =>
    clear hown hb1
    obtain ⟨k, hk, rfl, hown, hnx⟩ := hrel
    have hll := AM.lsK_len N E fs ts k
    have hcg : wr.cell? ⟨w.heap.size, 1, none⟩ = some (.slice (some ⟨be, oe, none⟩) m ce) := (hnx.cell (by simp; omega)).trans hAc
    have hcx : k < m → wr.cell? ⟨bm, om + k, none⟩ = some (.bool (E.getD k false)) := fun h => ((hnx.cell (by simp; omega)).trans (hA.cell hbm)).trans (hcm k h)
    have hcf : k < m → wr.cell? ⟨be, oe + k * 3 + 1, none⟩ = some (.int .i64 (fs k)) := fun h => ((hnx.cell (by simp; omega)).trans (hA.cell he)).trans (hce k h).1
    have hct : k < m → wr.cell? ⟨be, oe + k * 3 + 2, none⟩ = some (.int .i64 (ts k)) := fun h => ((hnx.cell (by simp; omega)).trans (hA.cell he)).trans (hce k h).2
    cases hbv : E.getD k false
    · rw [hbv] at hcx
      go_wp2_with fail
      · exact ⟨⟨k + 1, by omega, by simp, by rw [AM.lsK_no hbv]; exact hown, hnx⟩, by simp [intOf]; omega⟩
      · have hkm : ¬ k < m := by assumption
        obtain rfl : k = m := by omega
        have hA1 : Below w.heap.size w wr := hA.trans (hnx.mono (by omega))
        have hcw : ∀ j, j < k → wr.cell? ⟨bm, om + j, none⟩ = some (.bool (E.getD j false)) := fun j hj => (hA1.cell hbm).trans (hcm j hj)
        have hcw2 : ∀ j, j < n → wr.cell? ⟨g, 0 + j, none⟩ = some (.bool ((AM.lsK N E fs ts k).getD j false)) := fun j hj => by
          rw [Nat.zero_add, hown.cellAt _ (by omega)]; exact getD_map_bool (by omega)
        have hgs := (hown.lt g rfl).2
        have hsz := hA1.size
        have hc1 := marked_any g 0 n cap (fun j => (AM.lsK N E fs ts k).getD j false) wr hn hgs hcw2
        refine hc1.mono ?_
        rintro e w2 ⟨v2, rfl, ho2, hb2⟩
        have hcw3 : ∀ j, j < k → w2.cell? ⟨bm, om + j, none⟩ = some (.bool (E.getD j false)) := fun j hj => (hb2.cell (by simp; omega)).trans (hcw j hj)
        have hc2 := marked_any bm om k cm (fun j => E.getD j false) w2 hm (by have := hb2.size; omega) hcw3
        clear hc1 hcw hcw2 hcw3 hcx hcf hct hcg
        go_wp2_with fail
        refine hc2.mono ?_
        rintro e w3 ⟨u3, rfl, ho3, hb3⟩
        clear hc2
        have hsr := hnx.size
        have hs2 := hb2.size
        have hs3 := hb3.size
        have hnx3 : Below (w.heap.size + 1 + 1) wA w3 := (hnx.trans (hb2.mono (by omega))).trans (hb3.mono (by omega))
        have hx0 := (hnx3.cell (p := ⟨w.heap.size + 1, 0, none⟩) (by simp)).trans hAx0
        have hx1 := (hnx3.cell (p := ⟨w.heap.size + 1, 1, none⟩) (by simp)).trans hAx1
        have hz0' := (hnx3.frozen (p := ⟨w.heap.size + 1, 0, none⟩) (by simp)).trans hAz0
        have hz1' := (hnx3.frozen (p := ⟨w.heap.size + 1, 1, none⟩) (by simp)).trans hAz1
        have ho2' := owns_below (owns_mono (base' := w.heap.size + 1 + 1) ho2 (by omega)) hb3
        have ho3' := owns_mono (base' := w.heap.size + 1 + 1) ho3 (by omega)
        have hB3 : Below w.heap.size w w3 := hA.trans (hnx3.mono (by omega))
        clear hown hnx ho2 ho3 hb2 hb3 hnx3 hA1 hsz
        obtain ⟨A2, c2, rfl⟩ := owns_slice ho2'
        obtain ⟨A3, c3, rfl⟩ := owns_slice ho3'
        go_wp2
        refine bodyPost_ret (by simp [results, Tryz.results199, go_sem, hx0, hx1, hz0', hz1']; try rfl) rfl ?_
        exact ⟨_, _, rfl, owns_mono (owns_setCell (owns_setCell ho2' (by simp) _) (by simp) _) (by omega), owns_mono (owns_setCell (owns_setCell ho3' (by simp) _) (by simp) _) (by omega), (hB3.setCell (by simp) _).setCell (by simp) _⟩
    · rw [hbv] at hcx
      have hne1 : w.heap.size ≠ g := by omega
      have hne2 : be ≠ g := by omega
      have hne3 : g ≠ w.heap.size := by omega
      have hne4 : g ≠ be := by omega
      have hf1 := hown.frozenAt (fs k)
      have hf2 := hown.frozenAt (ts k)
      go_wp2_with fail
      · have hkm : k < m := by assumption
        have hcf' := hcf hkm
        have hct' := hct hkm
        have hfk := hf k hkm
        have htk := ht k hkm
        have hfk' : ((fs k : Nat) : Int) < n := by omega
        have htk' : ((ts k : Nat) : Int) < n := by omega
        have hfk0 : (0 : Int) ≤ ((fs k : Nat) : Int) := by omega
        have htk0 : (0 : Int) ≤ ((ts k : Nat) : Int) := by omega
        have hc1 : wr.cell? ⟨g, fs k, none⟩ = some (.bool ((AM.lsK N E fs ts k).getD (fs k) false)) := by
          rw [hown.cellAt _ (by omega)]; exact getD_map_bool (by omega)
        have hc2 : wr.cell? ⟨g, ts k, none⟩ = some (.bool ((AM.lsK N E fs ts k).getD (ts k) false)) := by
          rw [hown.cellAt _ (by omega)]; exact getD_map_bool (by omega)
        have hst1 := (hown.stored (fs k) (.bool true)).1
        have hst2 := (hown.stored (ts k) (.bool true)).1
        have hd1 := hst1.cellAt (ts k) (by omega)
        have hd2 := hst2.cellAt (fs k) (by omega)
        have hd3 := hst1.frozenAt (ts k)
        have hd4 := hst2.frozenAt (fs k)
        clear hcf hct hcx
        go_region_held3 (fun w' => w'.cell? ⟨w.heap.size, 1, none⟩ = some (.slice (some ⟨be, oe, none⟩) m ce) ∧ w'.cell? ⟨be, oe + k * 3 + 1, none⟩ = some (.int .i64 (fs k)) ∧ w'.cell? ⟨be, oe + k * 3 + 2, none⟩ = some (.int .i64 (ts k))) (go_keep) (fail)
        have hst3 := (hst1.stored (ts k) (.bool true)).1.drew
        have hnx' : Below (w.heap.size + 1 + 1) wA ((wr.setCell ⟨g, fs k, none⟩ (.bool true)).setCell ⟨g, ts k, none⟩ (.bool true)).drew := ((hnx.setCell hg1 _).setCell hg1 _).drew
        rw [← List.map_set, ← List.map_set, ← AM.lsK_yes hbv] at hst3
        clear hst1 hst2 hd1 hd2 hd3 hd4 hc1 hc2 hf1 hf2 hown hnx hcf' hct'
        generalize ((wr.setCell ⟨g, fs k, none⟩ (.bool true)).setCell ⟨g, ts k, none⟩ (.bool true)).drew = wn at *
        go_wp2
        exact ⟨⟨k + 1, by omega, by simp, hst3, hnx'⟩, by simp [intOf]; omega⟩
      · have hkm : ¬ k < m := by assumption
        exfalso
        rw [List.getD_eq_getElem?_getD, List.getElem?_eq_none (by omega)] at hbv
        cases hbv
set_option maxHeartbeats 4000000 in
set_option maxRecDepth 100000 in
theorem least_zero (GN : Value) (AE AN AB : Option Addr) (ce n cn cm : Nat) (N : List Bool) (w : World) (hn : n ≤ 1000000) (hN : N.length = n) (hA : AN = none → n = 0)
  (hcn : ∀ a, AN = some a → ∀ j, j < n → w.cell? (a.add j) = some (.bool (N.getD j false))) :
  Calls Tryz.prog 199 #[.agg #[GN, .slice AE 0 ce], .slice AN n cn, .slice AB 0 cm] w fun e w' => ∃ v u, e = .returned (.agg #[v, u]) ∧
   w'.ownsRow w.heap.size 3 1 v (AM.mkL (fun k => N.getD k false) n).length ((AM.mkL (fun k => N.getD k false) n).map (Value.int .i64)) ∧
   w'.ownsRow w.heap.size 3 1 u (AM.mkL (fun k => false) 0).length ((AM.mkL (fun k => false) 0).map (Value.int .i64)) ∧ Below w.heap.size w w' := by
 obtain ⟨i0, hi, hz0, hz1, hz2⟩ := info_parts infoB1
 go_enter Tryz.func199, Tryz.ntmps199
 go_wp2_with (first
  | (at_builtin; refine append_src rfl _ _ 216 rfl (w.heap.size + 1 + 1) 4 i0 (.bool false) 1 1 Tryz.underlying216 hi hz0 hz1 hz2 rfl (by decide) _ 0 [] rfl ?c0 AN n cn (N.map Value.bool) rfl ?c1 ?c2 ?c3 ?c4 ?c5 ?c6 ?c7 ?_)
  | go_in)
 case c0 =>
  refine ⟨rfl, .inr ⟨w.heap.size + 1 + 1, 0, #[], rfl, Nat.le_refl _, ?_, Nat.le_refl _, Nat.zero_le _, rfl, rfl⟩⟩
  have h := alloc_at ((w.alloc (.cells #[GN, .slice AE 0 ce] 25)).alloc (.cells #[.slice none 0 0, .slice none 0 0] 31)) (.cells #[] 4)
  rw [show ((w.alloc (.cells #[GN, .slice AE 0 ce] 25)).alloc (.cells #[.slice none 0 0, .slice none 0 0] 31)).heap.size = w.heap.size + 1 + 1 by simp] at h
  exact h
 case c1 => rw [List.length_map, hN, Nat.mul_one]
 case c2 => exact hA
 case c3 =>
  intro ad had j u hj
  by_cases hjn : j < n
  ·rw [getD_map_bool (by omega)] at hj
   cases hj
   have hc := hcn ad had j hjn
   rw [← hc]
   exact ((((Below.refl w.heap.size w).alloc (Nat.le_refl _) _).alloc (by simp) _).alloc (by simp; omega) _).cell (World.block_lt_of_cell? w _ hc)
  ·rw [List.getElem?_eq_none (by simp; omega)] at hj
   cases hj
 case c4 =>
  intro u hu
  obtain ⟨b, _, rfl⟩ := List.mem_map.1 hu
  rfl
 case c5 => unfold maxLen; omega
 case c6 => omega
 case c7 => simp
 intro v' w1 hown hg
 try simp only [Nat.zero_add, List.nil_append] at hown
 obtain ⟨A1, c1, rfl⟩ := owns_slice hown
 have hA : Below w.heap.size w ((w.alloc (.cells #[GN, .slice AE 0 ce] 25)).alloc (.cells #[.slice none 0 0, .slice none 0 0] 31)) := ((Below.refl w.heap.size w).alloc (Nat.le_refl _) _).alloc (by simp) _
 have hAs : ((w.alloc (.cells #[GN, .slice AE 0 ce] 25)).alloc (.cells #[.slice none 0 0, .slice none 0 0] 31)).heap.size = w.heap.size + 1 + 1 := by simp
 have hAx0 : ((w.alloc (.cells #[GN, .slice AE 0 ce] 25)).alloc (.cells #[.slice none 0 0, .slice none 0 0] 31)).cell? ⟨w.heap.size + 1, 0, none⟩ = some (.slice none 0 0) := by simp
 have hAx1 : ((w.alloc (.cells #[GN, .slice AE 0 ce] 25)).alloc (.cells #[.slice none 0 0, .slice none 0 0] 31)).cell? ⟨w.heap.size + 1, 1, none⟩ = some (.slice none 0 0) := by simp
 have hAz0 : ((w.alloc (.cells #[GN, .slice AE 0 ce] 25)).alloc (.cells #[.slice none 0 0, .slice none 0 0] 31)).frozen? ⟨w.heap.size + 1, 0, none⟩ = false := by simp
 have hAz1 : ((w.alloc (.cells #[GN, .slice AE 0 ce] 25)).alloc (.cells #[.slice none 0 0, .slice none 0 0] 31)).frozen? ⟨w.heap.size + 1, 1, none⟩ = false := by simp
 generalize hwA : ((w.alloc (.cells #[GN, .slice AE 0 ce] 25)).alloc (.cells #[.slice none 0 0, .slice none 0 0] 31)) = wA at *
 have hb1 : Below (w.heap.size + 1 + 1) wA w1 := ((Below.refl _ _).alloc (by omega) _).grown hg (by simp; omega) (by intro q hq; simp [Value.ownBlock] at hq; omega)
 clear hg hwA hcn
 have hc1 : Calls Tryz.prog 235 #[.slice A1 n c1] w1 fun e w' => ∃ v, e = .returned v ∧ w'.ownsRow w1.heap.size 3 1 v (AM.mkL (fun k => N.getD k false) n).length ((AM.mkL (fun k => N.getD k false) n).map (Value.int .i64)) ∧ Below w1.heap.size w1 w' := by
  by_cases h0 : n = 0
  ·subst h0
   refine (marked_zero A1 c1 w1).mono ?_
   rintro e w' ⟨rfl, rfl⟩
   exact ⟨_, rfl, ⟨rfl, .inl ⟨rfl, rfl⟩⟩, Below.refl _ _⟩
  ·obtain ⟨g, cap, e, hg1, hg2⟩ := hown.form (by omega)
   cases e
   exact marked_any g 0 n _ (fun j => N.getD j false) w1 hn hg2 fun j hj => by
    rw [Nat.zero_add, hown.cellAt _ (by omega)]; exact getD_map_bool (by omega)
 go_wp2
 go_loopw [8] (fun i wr => i = .int .i64 0 ∧ wr = w1) (fun i _ => 0)
 case atStart => exact ⟨rfl, rfl⟩
 case round =>
  obtain ⟨rfl, rfl⟩ := hrel
  go_wp2_with fail
  refine hc1.mono ?_
  rintro e w2 ⟨v2, rfl, ho2, hb2⟩
  clear hc1
  have hc2 := marked_zero AB cm w2
  go_wp2_with fail
  refine hc2.mono ?_
  rintro e w3 ⟨rfl, rfl⟩
  clear hc2
  have hsr := hb1.size
  have hs2 := hb2.size
  have hnx3 : Below (w.heap.size + 1 + 1) wA w3 := hb1.trans (hb2.mono (by omega))
  have hx0 := (hnx3.cell (p := ⟨w.heap.size + 1, 0, none⟩) (by simp)).trans hAx0
  have hx1 := (hnx3.cell (p := ⟨w.heap.size + 1, 1, none⟩) (by simp)).trans hAx1
  have hz0' := (hnx3.frozen (p := ⟨w.heap.size + 1, 0, none⟩) (by simp)).trans hAz0
  have hz1' := (hnx3.frozen (p := ⟨w.heap.size + 1, 1, none⟩) (by simp)).trans hAz1
  have ho2' := owns_mono (base' := w.heap.size + 1 + 1) ho2 (by omega)
  have hB3 : Below w.heap.size w w3 := hA.trans (hnx3.mono (by omega))
  clear hown hb1 ho2 hb2 hnx3
  obtain ⟨A2, c2, rfl⟩ := owns_slice ho2'
  go_wp2
  refine bodyPost_ret (by simp [results, Tryz.results199, go_sem, hx0, hx1, hz0', hz1']; try rfl) rfl ?_
  exact ⟨_, _, rfl, owns_mono (owns_setCell (owns_setCell ho2' (by simp) _) (by simp) _) (by omega), ⟨rfl, .inl ⟨rfl, rfl⟩⟩, (hB3.setCell (by simp) _).setCell (by simp) _⟩
end Go.Proofs.YtfgcpmeadeehhaaGreat.kt
namespace Go.AM
open Go Go.Proofs Go.RowKit
def rB (l : List Bool) : List (List D) := l.map fun b => [D.raw (.bool b)]
abbrev bls (l : List Bool) : D := .sl 1 (rB l)
theorem rvd_bls {c : Addr → Option Value} {ps : Addr → Prop} {l : List Bool} {v : Value} (h : RVd c ps (bls l) v) :
  ∃ A cap, v = .slice A l.length cap ∧ l.length ≤ cap ∧ cap ≤ maxLen ∧ (l ≠ [] → ∃ a, A = some a) ∧ ∀ a, A = some a → ∀ i, i < l.length → c (a.add i) = some (.bool (l.getD i false)) := by
 unfold bls rB at h
 generalize hes : (l.map fun n => [D.raw (.bool n)]) = es at h
 cases h with
 | @sl _ _ A cap u hcap hmax hsz hA hc hr =>
  have hl : es.length = l.length := by rw [← hes]; simp
  refine ⟨A, cap, by rw [hl], by omega, hmax, fun hne => hA (by intro e; rw [e] at hl; exact hne (List.length_eq_zero_iff.1 hl.symm)), fun a ha i hi => ?_⟩
  have g := (hc a ha i 0 (by omega) (by decide)).2
  have r := hr i 0 (by omega) (by rw [hsz _ (List.getElem_mem _)]; decide)
  have e1 : es[i][0]'(by rw [hsz _ (List.getElem_mem _)]; decide) = D.raw (.bool l[i]) := by
   subst hes
   simp
  rw [e1] at r
  have e2 : u i 0 = .bool l[i] := by
   generalize hu : u i 0 = x at r
   cases r
   rfl
  rw [Nat.mul_one, Nat.add_zero, e2] at g
  rw [g]
  simp [hi]
theorem rvd_edges {c : Addr → Option Value} {ps : Addr → Prop} {l : List E} {v : Value} (h : RVd c ps (AM.edges l) v) :
  ∃ A cap, v = .slice A l.length cap ∧ l.length ≤ cap ∧ cap ≤ maxLen ∧ (l ≠ [] → ∃ a, A = some a) ∧ ∀ a, A = some a → ∀ i, i < l.length → c (a.add (i * 3 + 0)) = some (.int .i64 (l.getD i default).ty) ∧ c (a.add (i * 3 + 1)) = some (.int .i64 (l.getD i default).fr) ∧ c (a.add (i * 3 + 2)) = some (.int .i64 (l.getD i default).to) := by
 unfold AM.edges at h
 generalize hes : l.map E.cells = es at h
 cases h with
 | @sl _ _ A cap u hcap hmax hsz hA hc hr =>
  have hl : es.length = l.length := by rw [← hes]; simp
  refine ⟨A, cap, by rw [hl], by omega, hmax, fun hne => hA (by intro e; rw [e] at hl; exact hne (List.length_eq_zero_iff.1 hl.symm)), fun a ha i hi => ?_⟩
  have hge : l.getD i default = l[i] := by simp [hi]
  have key : ∀ (j : Nat) (hj : j < 3) (n : Int), (l[i].cells)[j]'(by simpa [E.cells] using hj) = D.raw (.int .i64 n) → c (a.add (i * 3 + j)) = some (.int .i64 n) := fun j hj n hn => by
   have g := (hc a ha i j (by omega) hj).2
   have r := hr i j (by omega) (by rw [hsz _ (List.getElem_mem _)]; exact hj)
   have e1 : es[i][j]'(by rw [hsz _ (List.getElem_mem _)]; exact hj) = D.raw (.int .i64 n) := by
    subst hes
    rw [← hn]
    simp
   rw [e1] at r
   generalize hu : u i j = x at r g
   cases r
   exact g
  rw [hge]
  exact ⟨key 0 (by decide) _ rfl, key 1 (by decide) _ rfl, key 2 (by decide) _ rfl⟩
theorem spot_none {w : World} {a : Addr} {u : Value} (h : w.cell? (a.add 0) = some u) : a.spot = none := by
 cases hsp : a.spot with
 | none => rfl
 | some q =>
  exfalso
  simp only [World.cell?, Addr.add, hsp, Option.isSome_some, ↓reduceIte] at h
  split at h <;> simp at h
end Go.AM
namespace Go.AM
open Go Go.Proofs Go.RowKit
theorem addr_add (b off j : Nat) : (⟨b, off, none⟩ : Addr).add j = ⟨b, off + j, none⟩ := by
 unfold Addr.add
 split
 ·rename_i e; subst e; rfl
 ·rfl
theorem agg2 {G : Gh} {w : World} {x y : AV} {v : Value} (h : RV G w (.agg [x, y]) v) : ∃ v1 v2, v = .agg #[v1, v2] ∧ RV G w x v1 ∧ RV G w y v2 := by
 cases h with
 | @agg _ vs hl h2 h3 =>
  match vs, hl with
  | [v1, v2], _ => exact ⟨v1, v2, rfl, h2 0 (by simp) (by simp), h2 1 (by simp) (by simp)⟩
theorem agg2_of {G : Gh} {w : World} {x y : AV} {v1 v2 : Value} (h1 : RV G w x v1) (h2 : RV G w y v2) (o1 : v1.oneCell' = true) (o2 : v2.oneCell' = true) : RV G w (.agg [x, y]) (.agg #[v1, v2]) := by
 have := RV.agg (G := G) (w := w) (cs := [x, y]) (vs := [v1, v2]) rfl (fun i g1 g2 => by
  match i, g1 with
  | 0, _ => exact h1
  | 1, _ => exact h2) (by simp [o1, o2])
 exact this
theorem rvd_d {G : Gh} {w : World} {x : D} {v : Value} (h : RV G w (.d x) v) : RVd w.cell? G.ps x v := by cases h with | d h => exact h
theorem owns_one {w : World} {base : Nat} {e : TypeId} {size : Nat} {v : Value} {n : Nat} {xs : List Value} (h : w.ownsRow base e size v n xs) : v.oneCell' = true := by
 obtain ⟨A, c, rfl⟩ := YtfgcpmeadeehhaaGreat.kt.owns_slice h
 rfl
theorem lsK_get (g : Gr) (hv : validG g = 0) (N E : List Bool) (hN : N.length = g.nodes.length) : ∀ i, i ≤ g.edges.length → ∀ k, k < g.nodes.length →
  (lsK N E (fun j => (g.edges.getD j default).fr.toNat) (fun j => (g.edges.getD j default).to.toNat) i).getD k false = lsN g (fun k => N.getD k false) (fun k => E.getD k false) i k
 | 0, _, k, hk => by simp [lsK, lsN]
 | i + 1, hi, k, hk => by
  have ih := lsK_get g hv N E hN i (by omega) k hk
  obtain ⟨b1, b2, b3, b4⟩ := validG_edges hv (g.edges.getD i default) (getD_mem (by omega))
  rw [lsN_succ, ← ih]
  have hl := lsK_len N E (fun j => (g.edges.getD j default).fr.toNat) (fun j => (g.edges.getD j default).to.toNat) i
  cases he : E.getD i false
  ·rw [lsK_no he]; simp
  ·rw [lsK_yes he]
   generalize lsK N E _ _ i = L at *
   have set_get : ∀ (M : List Bool) (a : Nat), a < M.length → (M.set a true).getD k false = (M.getD k false || decide (a = k)) := fun M a ha => by
    by_cases e : a = k
    ·subst e; simp [ha]
    ·simp [e]
   rw [set_get _ _ (by rw [List.length_set]; omega), set_get _ _ (by omega)]
   have e1 : ((g.edges.getD i default).fr.toNat = k) = ((g.edges.getD i default).fr = (k : Int)) := by rw [eq_iff_iff]; omega
   have e2 : ((g.edges.getD i default).to.toNat = k) = ((g.edges.getD i default).to = (k : Int)) := by rw [eq_iff_iff]; omega
   simp only [e1, e2, Bool.true_and, Bool.or_assoc]
theorem least_c (g : Gr) (hg : g.Fit) (hv : validG g = 0) (N E : List Bool) (hN : N.length = g.nodes.length) (hE : E.length = g.edges.length) (tok : Tks) (nt : Nat) :
  DCall Tryz.prog 199 [g.av, .d (bls N), .d (bls E)] tok nt (lstP g (fun k => N.getD k false) (fun k => E.getD k false)).av tok nt := by
 intro box nb
 have hgn := hg.n
 have hge := hg.e
 refine ⟨Enters.mk Tryz.func199 rfl (by kernel_rfl), fun G w vals hm hr => ?_⟩
 obtain ⟨hlen, hrv⟩ := hr
 match vals, hlen with
 | [v, x, y], _ =>
  have h0 := hrv 0 (by simp) (by simp)
  have h1 := hrv 1 (by simp) (by simp)
  have h2 := hrv 2 (by simp) (by simp)
  simp only [List.getElem_cons_zero, List.getElem_cons_succ] at h0 h1 h2
  obtain ⟨v1, v2, rfl, g1, g2⟩ := agg2 h0
  obtain ⟨AE, ce, rfl, hce, hmE, hAE, hcE⟩ := rvd_edges (rvd_d g2)
  obtain ⟨AN, cn, rfl, hcn, hmN, hAN, hcN⟩ := rvd_bls (rvd_d h1)
  obtain ⟨AB, cb, rfl, hcb, hmB, hAB, hcB⟩ := rvd_bls (rvd_d h2)
  have hANz : AN = none → N.length = 0 := fun e => by
   by_cases hN0 : N = []
   ·rw [hN0]; rfl
   ·obtain ⟨a, ha⟩ := hAN hN0
    rw [e] at ha; cases ha
  by_cases h0 : g.edges.length = 0
  ·have hE0 : E.length = 0 := by omega
   rw [h0, hE0]
   refine (YtfgcpmeadeehhaaGreat.kt.least_zero v1 AE AN AB ce N.length cn cb N w (by omega) rfl hANz (fun a ha j hj => hcN a ha j hj)).mono ?_
   rintro e w' ⟨u1, u2, rfl, o1, o2, hb⟩
   have e1 : mkL (fun k => N.getD k false) N.length = (lstP g (fun k => N.getD k false) (fun k => E.getD k false)).nodes := by
    unfold lstP
    simp only
    rw [h0, hN]
    exact mkL_ext fun k hk => by simp [lsN]
   have e2 : mkL (fun k => false) 0 = (lstP g (fun k => N.getD k false) (fun k => E.getD k false)).edges := by
    unfold lstP
    simp only
    rw [h0]
    rfl
   rw [e1] at o1
   rw [e2] at o2
   exact ⟨_, _, _, G, rfl, ⟨rfl, rfl⟩, rfl, relM_below hm hb, agg2_of (.d (rvd_owns hm o1)) (.d (rvd_owns hm o2)) (owns_one o1) (owns_one o2), le_below hm hb, fun k hk => ⟨hk, rfl⟩⟩
  ·have hed := fun j (hj : j < g.edges.length) => validG_edges hv (g.edges.getD j default) (getD_mem hj)
   have hn0 : 0 < g.nodes.length := by have := hed 0 (by omega); omega
   obtain ⟨a1, rfl⟩ := hAE (by intro e; rw [e] at h0; exact h0 rfl)
   obtain ⟨a2, rfl⟩ := hAN (by intro e; rw [e] at hN; simp at hN; omega)
   obtain ⟨a3, rfl⟩ := hAB (by intro e; rw [e] at hE; simp at hE; omega)
   have cE := hcE a1 rfl
   have cN := hcN a2 rfl
   have cB := hcB a3 rfl
   have s1 := spot_none (a := a1.add 0) (by
    have := (cE 0 (by omega)).1
    simp only [Nat.zero_mul, Nat.zero_add] at this
    have e : (a1.add 0).add 0 = a1.add 0 := by unfold Addr.add; simp
    rw [e]; exact this)
   have s1' : a1.spot = none := by unfold Addr.add at s1; simpa using s1
   have s2 := spot_none (cN 0 (by omega))
   have s3 := spot_none (cB 0 (by omega))
   obtain ⟨be, oe, sp⟩ := a1
   obtain ⟨bn, on, sp2⟩ := a2
   obtain ⟨bm, om, sp3⟩ := a3
   simp only at s1' s2 s3
   subst s1' s2 s3
   simp only [addr_add] at cE cN cB
   have q1 := World.block_lt_of_cell? w _ (cE 0 (by omega)).2.1
   have q2 := World.block_lt_of_cell? w _ (cN 0 (by omega))
   have q3 := World.block_lt_of_cell? w _ (cB 0 (by omega))
   rw [hN]
   rw [hN] at cN
   rw [hE]
   rw [hE] at cB
   refine (YtfgcpmeadeehhaaGreat.kt.least_any v1 be oe g.edges.length ce bn on g.nodes.length cn bm om cb N E (fun j => (g.edges.getD j default).fr.toNat) (fun j => (g.edges.getD j default).to.toNat) w hn0 (by omega) (by omega) hN hE q1 q2 q3
    (fun j hj => by have := hed j hj; omega) (fun j hj => by have := hed j hj; omega) (fun j hj => ?_) cN cB).mono ?_
   ·have h3 := hed j hj
    obtain ⟨_, c1, c2⟩ := cE j hj
    refine ⟨?_, ?_⟩
    ·rw [show oe + j * 3 + 1 = oe + (j * 3 + 1) by omega, c1, show (((g.edges.getD j default).fr.toNat : Nat) : Int) = (g.edges.getD j default).fr by omega]
    ·rw [show oe + j * 3 + 2 = oe + (j * 3 + 2) by omega, c2, show (((g.edges.getD j default).to.toNat : Nat) : Int) = (g.edges.getD j default).to by omega]
   ·rintro e w' ⟨u1, u2, rfl, o1, o2, hb⟩
    have e1 : mkL (fun k => (lsK N E (fun j => (g.edges.getD j default).fr.toNat) (fun j => (g.edges.getD j default).to.toNat) g.edges.length).getD k false) g.nodes.length = (lstP g (fun k => N.getD k false) (fun k => E.getD k false)).nodes := by
     unfold lstP
     simp only
     exact mkL_ext fun k hk => lsK_get g hv N E hN _ (Nat.le_refl _) k hk
    have e2 : mkL (fun k => E.getD k false) g.edges.length = (lstP g (fun k => N.getD k false) (fun k => E.getD k false)).edges := rfl
    rw [e1] at o1
    rw [e2] at o2
    exact ⟨_, _, _, G, rfl, ⟨rfl, rfl⟩, rfl, relM_below hm hb, agg2_of (.d (rvd_owns hm o1)) (.d (rvd_owns hm o2)) (owns_one o1) (owns_one o2), le_below hm hb, fun k hk => ⟨hk, rfl⟩⟩
end Go.AM
namespace Go.AM
open Go
variable {P : Program} {wr : Bool}
theorem effW_maker' {base : Nat} {o : Oper} {ρ : Operand → AV} {b b' : Bxs} {v : AV} (hm : maker o.op = true) (h : EffW P base o ρ b v b') :
  ∃ s rows, o.dst = some s ∧ b' = upd b (base + s) (some rows) := by
 unfold EffW at h
 cases hop : o.op <;> rw [hop] at hm h <;> first | cases hm | skip
 ·simp only at h
  split at h
  ·rename_i s cs h1 h2
   obtain ⟨g1, g2, g3⟩ := h
   exact ⟨s, [cs], h1, g3⟩
  ·exact h.elim
 ·simp only at h
  split at h
  ·rename_i sz by' zs s k1 n k2 n' h1 h2 h3 h4
   obtain ⟨g1, g2, g3, g4, g5, g6⟩ := h
   exact ⟨s, _, h2, g6⟩
  ·exact h.elim
def isLoad : Op → Bool
 | .load .. => true
 | _ => false
theorem isLoad_spec {o : Oper} (h : isLoad o.op = true) : cls o.op = .r ∧ ∃ p, ptrOp o.op = some p := by
 cases hop : o.op <;> rw [hop] at h <;> first | cases h | skip
 exact ⟨rfl, _, rfl⟩
theorem maker_cls {o : Oper} (h : maker o.op = true) : cls o.op = .w := by
 cases hop : o.op <;> rw [hop] at h <;> first | (exact absurd h Bool.false_ne_true) | rfl
def lm (x y : Oper) : Bool := isLoad x.op && maker y.op || maker x.op && isLoad y.op
def regOk5 (ops : Array Oper) : Bool :=
 let an := ancs ops.toList []
 dstUniq ops && (List.range ops.size).all fun i => (match ops[i]? with | some o => (direct o).all fun j => decide (j < i) | none => true) &&
  (List.range i).all fun j => (an.getD i 0).testBit j || (match ops[j]?, ops[i]? with
   | some x, some y => Oper.apart ops x y && (!clash x y || isPtr x.op && isPtr y.op || lm x y)
   | _, _ => false)
def mks : List Oper → List Nat
 | [] => []
 | o :: r => if maker o.op = true then (match o.dst with | some s => s :: mks r | none => mks r) else mks r
def lds : List Oper → List Operand
 | [] => []
 | o :: r => match o.op with
  | .load _ p => p :: lds r
  | _ => lds r
def NB (x : AV) (k : Nat) : Prop := match x with
 | .ptr k' _ _ => k' ≠ k
 | _ => True
def FarN (x : AV) (base : Nat) : List Nat → Prop
 | [] => True
 | s :: r => NB x (base + s) ∧ FarN x base r
def FarM (S : AState) (base : Nat) (ms : List Nat) : List Operand → Prop
 | [] => True
 | p :: r => FarN (S.ev p) base ms ∧ FarM S base ms r
theorem farN_spec {x : AV} {base : Nat} : ∀ {l : List Nat} {s : Nat}, FarN x base l → s ∈ l → NB x (base + s)
 | a :: r, s, h, hs => by
  rcases List.mem_cons.1 hs with rfl | hs
  ·exact h.1
  ·exact farN_spec h.2 hs
theorem farM_spec {S : AState} {base : Nat} {ms : List Nat} : ∀ {l : List Operand} {p : Operand}, FarM S base ms l → p ∈ l → FarN (S.ev p) base ms
 | a :: r, p, h, hp => by
  rcases List.mem_cons.1 hp with rfl | hp
  ·exact h.1
  ·exact farM_spec h.2 hp
theorem mks_mem {o : Oper} {s : Nat} (hm : maker o.op = true) (hd : o.dst = some s) : ∀ {l : List Oper}, o ∈ l → s ∈ mks l
 | a :: r, h => by
  rcases List.mem_cons.1 h with rfl | h
  ·rw [mks, if_pos hm, hd]; simp
  ·have := mks_mem hm hd h
   rw [mks]
   split
   ·split
    ·exact List.mem_cons_of_mem _ this
    ·exact this
   ·exact this
theorem lds_mem {o : Oper} {p : Operand} (hm : isLoad o.op = true) (hp : ptrOp o.op = some p) : ∀ {l : List Oper}, o ∈ l → p ∈ lds l
 | a :: r, h => by
  rcases List.mem_cons.1 h with rfl | h
  ·cases hop : o.op <;> rw [hop] at hm hp <;> first | cases hm | skip
   simp only [ptrOp, Option.some.injEq] at hp
   subst hp
   rw [lds, hop]; simp
  ·have := lds_mem hm hp h
   rw [lds]
   split
   ·exact List.mem_cons_of_mem _ this
   ·exact this
theorem any_sound5 {n nb base : Nat} {ops : Array Oper} {Q : Exit → Act → World → Prop} {Sf : AState} {G0 : Gh} {w0 : World} {b0 : Bxs} (hreg : regOk5 ops = true) (hal : allocOk ops = true) (hdst : dstOk n ops = true) (hnb : base + n ≤ nb)
  (hfar : Far Sf (ptrs ops.toList)) (hfm : FarM Sf base (mks ops.toList) (lds ops.toList))
  (hQ : ∀ a' w' G', RelS n nb G' Sf a' w' → LeK base G0 w0 b0 G' w' Sf.box → Q .normal a' w') (fuel : Nat) (listed : Array Bool) (rem : List Nat) (S : AState) (a : Act) (w : World) (G : Gh) (hrem : rem = List.range ops.size) (hside : Side ops S)
  (h1 : listed.size = ops.size) (h2 : rem = (List.range ops.size).filter (fun i => !listed.getD i true)) (h3 : rem.length = fuel) (h4 : ∀ i o, ops[i]? = some o → listed.getD i false = true → ∀ j ∈ direct o, listed.getD j false = true)
  (h5 : IRun P false base ops rem S Sf) (h6 : RelS n nb G S a w) (h7 : ∀ i ∈ rem, ∀ o, ops[i]? = some o → Pend P base o G S.box) (h8 : LeK base G0 w0 b0 G w S.box) : wpAny P .any ops Q fuel listed a w := by
 unfold regOk5 at hreg
 simp only [Bool.and_eq_true] at hreg
 obtain ⟨hu, hreg⟩ := hreg
 have key : ∀ (i : Nat) (o : Oper), ops[i]? = some o → (∀ j ∈ direct o, j < i) ∧ ∀ j x, ops[j]? = some x → j < i → ((ancs ops.toList []).getD i 0).testBit j = true ∨ x.apart ops o = true ∧ ((clash x o = false ∨ isPtr x.op = true ∧ isPtr o.op = true) ∨ lm x o = true) := by
  intro i o ho
  have his : i < ops.size := (Array.getElem?_eq_some_iff.1 ho).1
  have hall := List.all_eq_true.1 hreg i (by simpa using his)
  rw [ho] at hall
  simp only [Bool.and_eq_true] at hall
  refine ⟨fun j hj => by simpa using List.all_eq_true.1 hall.1 j hj, fun j x hx hj => ?_⟩
  have h2 := List.all_eq_true.1 hall.2 j (by simpa using hj)
  rw [hx] at h2
  simpa only [Bool.or_eq_true, Bool.and_eq_true, Bool.not_eq_true'] using h2
 have start : Ivs Sf S := by
  intro t
  by_cases hd : ∃ o ∈ ops.toList, o.dst = some t
  ·obtain ⟨o, ho, hd⟩ := hd
   exact .inr (hside o ho t hd)
  ·refine .inl (irun_keeps (fun j _ x hx hxd => hd ⟨x, by simpa using Array.mem_of_getElem? hx, hxd⟩) h5).symm
 refine any_sound' (fun i o ho => (key i o ho).1) (Iv := Ivs Sf) (fun i o S' S'' rest ho hni hst hrun hiv => ivs_step hu i o S' S'' rest ho hni hst hrun hiv) ?_ hal hdst hnb hQ fuel listed rem S a w G h1 h2 h3 h4 start h5 h6 h7 h8
 intro i j o x ho hx hj hb S' S1 S2 hiv g1 g2
 have back : ∀ (z : Operand) k i off, S'.ev z = .ptr k i off → Sf.ev z = .ptr k i off := by
  intro z k i off hz
  cases z with
  | tmp t =>
   rcases hiv t with e | e
   ·exact e.symm.trans hz
   ·have hz' : S'.tmps t = .ptr k i off := hz
    rw [hz'] at e
    exact e.elim
  | const c => exact hz
  | global c => exact hz
  | func c => exact hz
 have nb : ∀ (y z : Oper) (p : Operand) (s : Nat), isLoad y.op = true → ptrOp y.op = some p → y ∈ ops.toList → maker z.op = true → z.dst = some s → z ∈ ops.toList → ∀ k i off, S'.ev p = .ptr k i off → k ≠ base + s := fun y z p s hy hp hym hz hs hzm k i off hk => by
  have := farN_spec (farM_spec hfm (lds_mem hy hp hym)) (mks_mem hz hs hzm)
  rw [back p _ _ _ hk] at this
  exact this
 have hxm : x ∈ ops.toList := by simpa using Array.mem_of_getElem? hx
 have hom : o ∈ ops.toList := by simpa using Array.mem_of_getElem? ho
 rcases (key i o ho).2 j x hx hj with h | ⟨h, h'⟩
 ·rw [hb] at h; cases h
 ·by_cases hlm : lm x o = true
  ·unfold lm at hlm
   simp only [Bool.or_eq_true, Bool.and_eq_true] at hlm
   refine gstep_swap' h (fun {c0 c1 c2 s0 s1 s2 m0 m1 m2 vx vy} e1 e2 => ?_) g1 g2
   unfold Eff at e1 e2 ⊢
   rcases hlm with ⟨q1, q2⟩ | ⟨q1, q2⟩
   ·obtain ⟨k1, p, hp⟩ := isLoad_spec q1
    have k2 := maker_cls q2
    simp only [k1, k2] at e1 e2 ⊢
    obtain ⟨e1, rfl, rfl, rfl⟩ := e1
    obtain ⟨e2, rfl, rfl⟩ := e2
    obtain ⟨s, rows, hs, rfl⟩ := effW_maker' q2 e2
    exact ⟨_, _, _, ⟨e2, rfl, rfl⟩, effR_ptr hp k1 e1 (nb x o p s q1 hp hxm q2 hs hom), rfl, rfl, rfl⟩
   ·obtain ⟨k1, p, hp⟩ := isLoad_spec q2
    have k2 := maker_cls q1
    simp only [k1, k2] at e1 e2 ⊢
    obtain ⟨e1, rfl, rfl⟩ := e1
    obtain ⟨e2, rfl, rfl, rfl⟩ := e2
    obtain ⟨s, rows, hs, rfl⟩ := effW_maker' q1 e1
    exact ⟨_, _, _, ⟨effR_back hp k1 (nb o x p s q2 hp hom q1 hs hxm) e2, rfl, rfl, rfl⟩, e1, rfl, rfl⟩
  ·have h' := h'.resolve_right hlm
   cases hc : clash x o with
   | false => exact gstep_swap h hc g1 g2
   | true =>
    rcases h' with h' | ⟨h1', h2'⟩
    ·rw [hc] at h'; cases h'
    ·obtain ⟨p, hp⟩ := Option.isSome_iff_exists.1 h1'
     obtain ⟨q, hq⟩ := Option.isSome_iff_exists.1 h2'
     have hnk := far_spec hfar hj (by simpa using hx) (by simpa using ho) hp hq hc
     refine gstep_swap' h (fun {c0 c1 c2 s0 s1 s2 m0 m1 m2 vx vy} e1 e2 => ?_) g1 g2
     refine eff_far hp hq (fun k i1 off k' i2 off' hk hk' => ?_) e1 e2
     rw [back p _ _ _ hk, back q _ _ _ hk'] at hnk
     exact hnk
theorem AT.region5 {cx : Cx} {nt0 id : Nat} {ops : Array Oper} {S : AState} {K : Exit → AState → Prop} (hf : P.follows .mixedOrders = true) (hnb : cx.base + cx.n ≤ cx.nb) (hok : (allocOk ops && dstOk cx.n ops && regOk5 ops) = true) (hside : Side ops S)
  (h : ARegion P cx ops true S (fun S' => (Far S' (ptrs ops.toList) ∧ FarM S' cx.base (mks ops.toList) (lds ops.toList)) ∧ K .normal S')) : AT P cx nt0 (.region id ops true) S K := by
 simp only [Bool.and_eq_true] at hok
 obtain ⟨⟨hal, hdst⟩, hreg⟩ := hok
 intro G0 w0 he hn G a w hr hl
 have hd := dstOk_spec hdst
 obtain ⟨b, hb, hr1, hp, hkeep⟩ := preB_sound hnb ops.toList S.box (S := S) hr (fun o ho d hod => hd o d (by simpa using ho) hod) (allocOk_nodup hal) h
 have hl1 : LeC cx G0 w0 G w { S with box := b } := ⟨hl.1, fun k hk hg => by
  rw [← hl.2 k hk hg]
  refine hkeep k fun hm => ?_
  obtain ⟨o, ho, he⟩ := List.mem_filterMap.1 hm
  split at he
  ·rename_i T s h1 h2
   simp only [Option.some.injEq] at he
   subst he
   exact absurd hk (by simp)
  ·cases he⟩
 simp only at hb
 obtain ⟨S', hrun, ⟨hfar, hfm⟩, hK⟩ := hb
 refine wp_region_any hf ?_
 have hrd : RelS cx.n cx.nb G { S with box := b } a w.drew := hr1.drew
 have hld : LeC cx G0 w0 G w.drew { S with box := b } := hl1.step ⟨Le.drew, fun k _ hg => ⟨hg, rfl⟩⟩
 refine any_sound5 (n := cx.n) (nb := cx.nb) (base := cx.base) (Sf := S') (G0 := G) (w0 := w.drew) (b0 := b) hreg hal hdst hnb hfar hfm (fun a' w' G' h1 h2 => ⟨S', G', hK, h1, hld.step h2⟩) ops.size (Array.replicate ops.size false) (List.range ops.size) { S with box := b } a w.drew G rfl hside (by simp) ?_ (by simp) ?_ (IRun.of_all hrun) hrd ?_ (LeK.refl _ _ _ _)
 ·rw [List.filter_eq_self.2]
  intro i hi
  simp at hi
  simp [Array.getD, hi]
 ·intro i o ho hlst
  have hi := (Array.getElem?_eq_some_iff.1 ho).1
  simp [Array.getD, hi] at hlst
 ·intro i _ o ho
  exact hp o (by simpa using Array.mem_of_getElem? ho)
theorem AL.region5 {cx : Cx} {nt0 : Nat} {r : List CI} {K : Exit → AState → Prop} {S : AState} {id : Nat} {ops : Array Oper} (hf : P.follows .mixedOrders = true) (hnb : cx.base + cx.n ≤ cx.nb) (hok : (allocOk ops && dstOk cx.n ops && regOk5 ops) = true) (hs : Side ops S)
  (h : FReg P cx ops true (fun S' => (Far S' (ptrs ops.toList) ∧ FarM S' cx.base (mks ops.toList) (lds ops.toList)) ∧ AL P cx nt0 K r S') S) : AL P cx nt0 K (.c (.region id ops true) :: r) S := by
 simp only [AL]
 exact AT.region5 hf hnb hok hs (fReg_sound h)
end Go.AM
namespace Go.AM
open Go Go.Proofs
@[simp] theorem rep_rB (n : Nat) : List.replicate n [AV.d (.raw (.bool false))] = rowsB (List.replicate n false) := by simp [rowsB]
def mbL (b : Nat → Bool) (n i : Nat) : List Bool := (List.range n).map fun (k : Nat) => decide (k < i) && b k
@[simp] theorem mbL_len (b : Nat → Bool) (n i : Nat) : (mbL b n i).length = n := by simp [mbL]
theorem congrArg₂' {a b c d : List Int} (h : a = b) (k : c = d) : (⟨a, c⟩ : Mo) = ⟨b, d⟩ := by rw [h, k]
theorem mbL_zero (b : Nat → Bool) (n : Nat) : mbL b n 0 = List.replicate n false := by
 refine List.ext_getElem (by simp) fun k h1 h2 => ?_
 simp [mbL]
theorem mbL_set (b : Nat → Bool) {n i : Nat} (h : i < n) : (mbL b n i).set i (b i) = mbL b n (i + 1) := by
 refine List.ext_getElem (by simp) fun k h1 h2 => ?_
 rw [List.getElem_set]
 simp only [mbL, List.getElem_map, List.getElem_range]
 split
 ·rename_i e; subst e; simp
 ·rename_i e
  have : (k < i + 1) = (k < i) := by rw [eq_iff_iff]; omega
  simp [this]
theorem mbL_get (b : Nat → Bool) {n k : Nat} (h : k < n) : (mbL b n n).getD k false = b k := by simp [mbL, h]
abbrev m7N (g : Gr) (S : Int) (i : Nat) : List Bool := mbL (bitV S) g.nodes.length i
abbrev m7E (g : Gr) (S : Int) (i : Nat) : List Bool := mbL (fun j => bitV S (g.nodes.length + j)) g.edges.length i
def stM7a (g : Gr) (S : Int) (nb : Nat) (box : Bxs) (tok : Tks) (nt i : Nat) : AState :=
 ⟨tl [(7, I i), (6, .msl (nb + 16) 0 g.edges.length 1), (5, .msl (nb + 12) 0 g.nodes.length 1), (1, .d (u64 S)), (2, .ptr (nb + 2) 0 0), (4, .ptr (nb + 4) 0 0)], lb nb box [(16, rowsB (m7E g S 0)), (12, rowsB (m7N g S i)), (2, [[.d (ints g.nodes), .d (AM.edges g.edges)]]), (4, [[nilS, nilS]])], tok, nt⟩
def stM7b (g : Gr) (S : Int) (nb : Nat) (box : Bxs) (tok : Tks) (nt i : Nat) : AState :=
 ⟨tl [(8, I i), (6, .msl (nb + 16) 0 g.edges.length 1), (5, .msl (nb + 12) 0 g.nodes.length 1), (1, .d (u64 S)), (2, .ptr (nb + 2) 0 0), (4, .ptr (nb + 4) 0 0)], lb nb box [(16, rowsB (m7E g S i)), (12, rowsB (m7N g S g.nodes.length)), (2, [[.d (ints g.nodes), .d (AM.edges g.edges)]]), (4, [[nilS, nilS]])], tok, nt⟩
theorem to_frzB {p q : Nat → Prop} {k n : Nat} {L : List Bool} (h : L.length = n) : To p q (some (k, 1, rB L)) (.msl k 0 n 1) (.d (bls L)) := by
 have h2 := To.frz (p := p) (q := q) (fz := some (k, 1, rB L)) (k := k) (sz := 1) (es := rB L) rfl
 have : (rB L).length = n := by simp [rB, h]
 rw [this] at h2
 exact h2
theorem made07_c (g : Gr) (hg : g.Fit) (hv : validG g = 0) (S : Int) (tok : Tks) (nt : Nat) : DCall Tryz.prog 137 [g.av, .d (u64 S)] tok nt (mad7 g S).av tok nt := by
 intro box nb
 have hgn := hg.n
 have hge := hg.e
 have hL := least_c g hg hv (m7N g S g.nodes.length) (m7E g S g.edges.length) (by simp) (by simp)
 have hLe : lstP g (fun k => (m7N g S g.nodes.length).getD k false) (fun k => (m7E g S g.edges.length).getD k false) = mad7 g S := by
  unfold mad7 lstP
  have e2 : ∀ k, k < g.edges.length → (m7E g S g.edges.length).getD k false = bitV S (g.nodes.length + k) := fun k hk => mbL_get _ hk
  refine congrArg₂' ?_ (mkL_ext e2)
  refine mkL_ext fun k hk => ?_
  have e1 : (m7N g S g.nodes.length).getD k false = bitV S k := mbL_get _ hk
  unfold lsN
  show ((m7N g S g.nodes.length).getD k false || _) = (bitV S k || _)
  rw [e1]
  congr 1
  rw [Bool.eq_iff_iff, List.any_eq_true, List.any_eq_true]
  refine exists_congr fun j => and_congr_right fun hj => ?_
  show ((m7E g S g.edges.length).getD j false && _) = true ↔ (bitV S (g.nodes.length + j) && _) = true
  rw [e2 j (List.mem_range.1 hj)]
 rw [hLe] at hL
 have hrN : List.replicate g.nodes.length [B false] = rowsB (m7N g S 0) := by rw [m7N, mbL_zero]; unfold rowsB; rw [List.map_replicate]
 have hrE : List.replicate g.edges.length [B false] = rowsB (m7E g S 0) := by rw [m7E, mbL_zero]; unfold rowsB; rw [List.map_replicate]
 refine sB Tryz.func137 Tryz.ntmps137 ?_
 intro hbox htok
 simp only at hbox htok
 apply AL.start
 refine sR ?_
 simp
 refine sN ?_
 refine AL.region5 follows_Tryz (Nat.le_refl _) (by kernel_rfl) (Side.of (by simp)) ?_
 simp [FarM, FarN, NB, mks, lds, maker]
 refine ⟨by omega, by omega, ?_⟩
 try (simp)
 repeat (refine sR ?_; simp)
 refine sN ?_
 refine AL.loopT (stM7a g S nb box tok nt) (fun i => i ≤ g.nodes.length) (fun i => g.nodes.length - i) 0 (Nat.zero_le _) (Weaks.mk (Nat.le_refl _) rfl (by simp [ToL, lk]) (by simp [BoxL, lk, m7N, m7E, mbL_zero])) ?_
 rintro i S' hi hS
 simp only [stM7a] at hS
 subst hS
 have hw := sW (i := i) (by omega)
 have hln : (m7N g S i).length = g.nodes.length := mbL_len _ _ _
 try (simp)
 repeat (refine sR ?_; simp)
 refine sC ?_
 simp
 refine ⟨fun hlt => ?_, fun hge => ?_⟩
 ·have hst := mbL_set (bitV S) hlt
  have ht : (i : Int).tmod 64 = (i : Int) % 64 := Int.tmod_eq_emod_of_nonneg (by omega)
  have h0 : (0 : Int) ≤ (i : Int) % 64 := by omega
  try (simp [hlt, ht, h0])
  repeat (refine sR ?_; simp [hlt, ht, h0])
  have hbit : (IntKind.u64.wrap ((((S.fdiv (2 ^ min (((i : Int) % 64)).toNat IntKind.u64.bits) % 2 ^ IntKind.u64.bits).toNat &&& (1 % 2 ^ IntKind.u64.bits) : Nat) : Int)) == 1) = bitV S i := rfl
  simp only [hbit]
  try (simp [hw, hst])
  repeat (refine sR ?_; simp [hw, hst])
  refine sE ?_
  exact ⟨i + 1, hlt, by omega, Weaks.mk (Nat.le_refl _) rfl (by simp [ToL, lk]) (by simp [BoxL, lk, m7N, hst])⟩
 ·refine sX ?_
  simp only [AU, ↓reduceIte]
  have : i = g.nodes.length := by omega
  subst this
  try (simp)
  repeat (refine sR ?_; simp)
  refine sN ?_
  refine AL.loopT (stM7b g S nb box tok nt) (fun i => i ≤ g.edges.length) (fun i => g.edges.length - i) 0 (Nat.zero_le _) (Weaks.mk (Nat.le_refl _) rfl (by simp [ToL, lk]) (by simp [BoxL, lk])) ?_
  rintro i S' hi hS
  simp only [stM7b] at hS
  subst hS
  have hw := sW (i := i) (by omega)
  have hw2 : IntKind.i64.wrap ((g.nodes.length : Int) + ↑i) = ((g.nodes.length + i : Nat) : Int) := by rw [wrap_in (by omega) (by omega)]; simp
  have hle : (m7E g S i).length = g.edges.length := mbL_len _ _ _
  try (simp)
  repeat (refine sR ?_; simp)
  refine sC ?_
  simp
  refine ⟨fun hlt => ?_, fun hge => ?_⟩
  ·have hst := mbL_set (fun j => bitV S (g.nodes.length + j)) hlt
   have ht : ((g.nodes.length : Int) + (i : Int)).tmod 64 = ((g.nodes.length : Int) + (i : Int)) % 64 := Int.tmod_eq_emod_of_nonneg (by omega)
   have h0 : (0 : Int) ≤ ((g.nodes.length : Int) + (i : Int)) % 64 := by omega
   try (simp [hlt, hw2, ht, h0])
   repeat (refine sR ?_; simp [hlt, hw2, ht, h0])
   have hbit : (IntKind.u64.wrap ((((S.fdiv (2 ^ min ((((g.nodes.length : Int) + (i : Int)) % 64)).toNat IntKind.u64.bits) % 2 ^ IntKind.u64.bits).toNat &&& (1 % 2 ^ IntKind.u64.bits) : Nat) : Int)) == 1) = bitV S (g.nodes.length + i) := by
    unfold bitV
    rw [Int.natCast_add]
   simp only [hbit]
   try (simp [hw, hst])
   repeat (refine sR ?_; simp [hw, hst])
   refine sE ?_
   exact ⟨i + 1, hlt, by omega, Weaks.mk (Nat.le_refl _) rfl (by simp [ToL, lk]) (by simp [BoxL, lk, m7E, hst])⟩
  ·refine sX ?_
   simp only [AU, ↓reduceIte]
   have : i = g.edges.length := by omega
   subst this
   refine AL.weak (Weaks.frz (l' := [(6, .d (bls (m7E g S g.edges.length))), (5, .msl (nb + 12) 0 g.nodes.length 1), (2, .ptr (nb + 2) 0 0), (4, .ptr (nb + 4) 0 0)]) (loc' := [(12, rowsB (m7N g S g.nodes.length)), (2, [[.d (ints g.nodes), .d (AM.edges g.edges)]]), (4, [[nilS, nilS]])]) 16 1 (rB (m7E g S g.edges.length)) (Nat.le_refl _) rfl (by simp [lk, rowsB_eq, rB]) (by simp [lk]) (fun e he => by obtain ⟨b, _, rfl⟩ := List.mem_map.1 he; rfl) (by simp [ToL, lk, lb_at]; exact to_frzB hle) (by simp [BoxL, lk])) ?_
   have hln : (m7N g S g.nodes.length).length = g.nodes.length := mbL_len _ _ _
   refine AL.weak (Weaks.frz (l' := [(6, .d (bls (m7E g S g.edges.length))), (5, .d (bls (m7N g S g.nodes.length))), (2, .ptr (nb + 2) 0 0), (4, .ptr (nb + 4) 0 0)]) (loc' := [(2, [[.d (ints g.nodes), .d (AM.edges g.edges)]]), (4, [[nilS, nilS]])]) 12 1 (rB (m7N g S g.nodes.length)) (Nat.le_refl _) rfl (by simp [lk, rowsB_eq, rB]) (by simp [lk]) (fun e he => by obtain ⟨b, _, rfl⟩ := List.mem_map.1 he; rfl) (by simp [ToL, lk, lb_at]; exact to_frzB hln) (by simp [BoxL, lk])) ?_
   try (simp)
   repeat (refine sR ?_; simp)
   refine Stop.of_d (hL _ _) ?_
   simp
   try (simp)
   repeat (refine sR ?_; simp)
   refine sT ?_
   try simp only [AU]
   refine ⟨by simp, sF hbox htok (fun _ h => h) (Nat.le_refl _) ?_⟩
   simp [packA]
end Go.AM
