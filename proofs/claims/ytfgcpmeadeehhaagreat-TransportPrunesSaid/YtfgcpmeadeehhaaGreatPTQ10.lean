/-
 Parts of the proof, as merged from many texts: a machine over data, what the functions compute, plain laws.
-/
import Derived.Test.YtfgcpmeadeehhaaGreatPTQ9
import Derived.WalkKit
import Derived.ProofKit
import Derived.OpenShut
import Derived.ChangeStays
import Derived.SizedLaws
set_option linter.unusedSimpArgs false
set_option linter.unusedVariables false
namespace Go.AM
open Go Go.Proofs
theorem TK.adv {mtok : Nat → Bool} {nt0 : Nat} {tok tok' : Nat → Bool} {nt nt' : Nat} {os : List Own} {own' : Own} (h : TK mtok nt0 tok nt os) (ha : Adv tok nt .full tok' nt' own') : TK mtok nt0 tok' nt' (own' :: os) := by
 have hnew : ∀ s, own' = .tok s → nt ≤ s ∧ tok' s = true := fun s e => by
  have hl := ha.live
  rw [e] at hl
  rcases ha.new with e2 | ⟨s2, e2, hs⟩
  ·rw [e] at e2; cases e2
  ·rw [e] at e2; cases e2; exact ⟨hs, hl⟩
 refine ⟨fun t ht => ha.keep t (h.old t ht) (by simp), h.lt, Nat.le_trans h.le ha.le, fun o ho t e => ?_, ?_⟩
 ·rcases List.mem_cons.1 ho with rfl | ho
  ·obtain ⟨h1, h2⟩ := hnew t e
   exact ⟨h2, Nat.le_trans h.le h1, ha.lt t h2⟩
  ·obtain ⟨h1, h2, h3⟩ := h.own o ho t e
   exact ⟨ha.keep t h1 (by simp), h2, Nat.lt_of_lt_of_le h3 ha.le⟩
 ·refine List.pairwise_cons.2 ⟨fun b hb t e e2 => ?_, h.ne⟩
  obtain ⟨h1, h2⟩ := hnew t e
  obtain ⟨_, _, h3⟩ := h.own b hb t e2
  omega
def exX (g x : Gr) : Cd := cdOf 2 [.mk 5 [cdOf 1 []] (idM g) x [] 0 []]
def appE (t : Ty) (g : Gr) (i k : Nat) : List Gr := lrgL t g i k true ++ lrgL t g i k false
def appI (t : Ty) (g : Gr) (keep : List Int) (i : Nat) : List Gr := if (i : Int) ∈ keep then [] else flatN (appE t g i) t.edges.length
def appL (t : Ty) (r : Ru) : List Gr := flatN (appI t r.lg r.k.nodes) r.lg.nodes.length
def appC (t : Ty) (r : Ru) : Cd := cdOf 3 ((appL t r).map (exX r.lg))
def badG (x : Gr) : Bool := validG x != 0
def appR (t : Ty) (r : Ru) : Cd × Int :=
 if tpdE t r ≠ 0 then (cdOf 0 [], tpdE t r) else if anyB badG (appL t r) = true then (cdOf 0 [], 3) else if (appL t r).length = 0 then (cdOf 1 [], 0)
 else if validC r.lg (appC t r) ≠ 0 then (cdOf 0 [], validC r.lg (appC t r)) else (appC t r, 0)
theorem tpdE_zero {t : Ty} {r : Ru} (h : tpdE t r = 0) : tyE t = 0 ∧ strR r = 0 ∧ tpB t r = 0 := by
 unfold tpdE at h
 split at h
 ·contradiction
 ·rename_i h1
  split at h
  ·contradiction
  ·rename_i h2
   exact ⟨Decidable.not_not.1 h1, Decidable.not_not.1 h2, h⟩
theorem mem_flatN {α : Type} {f : Nat → List α} {x : α} : ∀ {n : Nat}, x ∈ flatN f n ↔ ∃ i, i < n ∧ x ∈ f i
 | 0 => by simp [flatN]
 | n + 1 => by
  rw [flatN, List.mem_append, mem_flatN]
  constructor
  ·rintro (⟨i, hi, hx⟩ | hx)
   ·exact ⟨i, by omega, hx⟩
   ·exact ⟨n, by omega, hx⟩
  ·rintro ⟨i, hi, hx⟩
   by_cases e : i = n
   ·subst e; exact .inr hx
   ·exact .inl ⟨i, by omega, hx⟩
theorem lrgX_ok (t : Ty) (g : Gr) (node kind : Int) (out : Bool) {tok : Nat → Bool} {nt : Nat} (h : ∀ t, tok t = true → t < nt) : (lrgX t g node kind out ⟨.full, tok, nt⟩).Ok tok nt := acB_ok (acA_ok (Ac3.Ok.start h) _) _
theorem lt_app {tok : Nat → Bool} {nt : Nat} (o : Own) (h : ∀ t, tok t = true → t < nt) : ∀ t, upd (o.kill tok) nt true t = true → t < nt + 1 := by
 intro t ht
 unfold upd at ht
 split at ht
 ·omega
 ·cases o with
  | full => have := h t ht; omega
  | tok s =>
   simp only [kill_tok, upd] at ht
   split at ht
   ·cases ht
   ·have := h t ht; omega
theorem lrgL_len (t : Ty) (g : Gr) (node kind : Int) (out : Bool) : (lrgL t g node kind out).length ≤ g.nodes.length + t.nodes.length := by
 have h1 := flatN_len (lrA_len t g node kind out) g.nodes.length
 have h2 := flatN_len (lrB_len t g node kind out) t.nodes.length
 rw [lrgL, List.length_append]
 omega
theorem flatN_le {α : Type} {f : Nat → List α} {M : Nat} (h : ∀ i, (f i).length ≤ M) : ∀ n, (flatN f n).length ≤ n * M
 | 0 => by simp [flatN]
 | n + 1 => by
  have := flatN_le h n
  have := h n
  simp only [flatN, List.length_append]
  rw [Nat.add_mul, Nat.one_mul]
  omega
theorem tyE_small {t : Ty} (h : tyE t = 0) : t.nodes.length ≤ 12 ∧ t.edges.length ≤ 20 := by
 unfold tyE at h
 split at h
 ·cases h
 ·split at h
  ·cases h
  ·split at h
   ·cases h
   ·omega
theorem appE_len {t : Ty} {g : Gr} (hn : g.nodes.length ≤ 40) (ht : t.nodes.length ≤ 12) (i k : Nat) : (appE t g i k).length ≤ 104 := by
 have h1 := lrgL_len t g i k true
 have h2 := lrgL_len t g i k false
 rw [appE, List.length_append]
 omega
theorem appI_len {t : Ty} {g : Gr} (hn : g.nodes.length ≤ 40) (ht : t.nodes.length ≤ 12) (he : t.edges.length ≤ 20) (keep : List Int) (i : Nat) : (appI t g keep i).length ≤ 2080 := by
 unfold appI
 split
 ·simp
 ·have := flatN_le (f := appE t g i) (fun k => appE_len hn ht i k) t.edges.length
  have : t.edges.length * 104 ≤ 20 * 104 := Nat.mul_le_mul_right _ he
  omega
theorem mem_lrgL {t : Ty} {g : Gr} {node kind : Int} {out : Bool} {x : Gr} (h : x ∈ lrgL t g node kind out) : (∃ w, x.nodes = g.nodes ++ w ∧ w.length ≤ 1) ∧ ∃ e, x.edges = g.edges ++ [e] := by
 have ha : ∀ other nodes, x ∈ addL t g node kind out other nodes → x.nodes = nodes ∧ ∃ e, x.edges = g.edges ++ [e] := fun other nodes h => by
  unfold addL at h
  split at h
  ·rw [List.mem_singleton] at h; subst h; exact ⟨rfl, _, rfl⟩
  ·cases h
 rcases List.mem_append.1 h with h | h
 ·obtain ⟨i, _, h⟩ := mem_flatN.1 h
  unfold lrA at h
  split at h
  ·obtain ⟨h1, h2⟩ := ha _ _ h
   exact ⟨⟨[], by simpa using h1, by simp⟩, h2⟩
  ·cases h
 ·obtain ⟨i, _, h⟩ := mem_flatN.1 h
  unfold lrB at h
  split at h
  ·obtain ⟨h1, h2⟩ := ha _ _ h
   exact ⟨⟨_, h1, by simp⟩, h2⟩
  ·cases h
theorem mem_appE {t : Ty} {g : Gr} {i k : Nat} {x : Gr} (h : x ∈ appE t g i k) : (∃ w, x.nodes = g.nodes ++ w ∧ w.length ≤ 1) ∧ ∃ e, x.edges = g.edges ++ [e] := by
 rcases List.mem_append.1 h with h | h
 ·exact mem_lrgL h
 ·exact mem_lrgL h
theorem appE_fit {t : Ty} {g : Gr} (hn : g.nodes.length ≤ 40) (he : g.edges.length ≤ 80) {i k : Nat} {x : Gr} (h : x ∈ appE t g i k) : x.Fit := by
 obtain ⟨⟨w, h1, h2⟩, e, h3⟩ := mem_appE h
 refine ⟨?_, ?_⟩
 ·rw [h1, List.length_append]; omega
 ·rw [h3, List.length_append]; simp; omega
def okL (L : List Gr) : Bool := !anyB badG L
theorem okL_iff {L : List Gr} : okL L = true ↔ ∀ x ∈ L, badG x = false := by simp [okL, anyB]
theorem okL_add {L A : List Gr} {j : Nat} (hj : j < A.length) (h : okL (L ++ A.take j) = true) (h2 : badG A[j] = false) : okL (L ++ A.take (j + 1)) = true := by
 rw [okL_iff] at h ⊢
 intro x hx
 rw [List.take_succ_eq_append_getElem hj, ← List.append_assoc] at hx
 rcases List.mem_append.1 hx with hx | hx
 ·exact h x hx
 ·rw [List.mem_singleton.1 hx]; exact h2
abbrev apBox (t : Ty) (r : Ru) (K : List Cd) (own : Own) : List (Nat × List (List AV)) :=
 [(10, [[I 3, .osl 9 (K.map Cd.cells) own, nilS, nilS, nilS, nilS, nilS, z0i, nilS]]), (8, [[.d (ints (idM r.lg).nodes), .d (ints (idM r.lg).edges)]]), (7, [[.d (ints r.lg.nodes), .d (AM.edges r.lg.edges)]]), (4, [[z0i, nilS, nilS, nilS, nilS, nilS, nilS, z0i, nilS]]), (3, [r.row]), (2, [[.d (nts t.nodes), .d (ets t.edges)]])]
abbrev apS (r : Ru) (nb i : Nat) : List (Nat × AV) := [(40, I i), (39, I r.lg.nodes.length), (38, .d (ints r.lg.nodes)), (10, .ptr (nb + 10) 0 0), (8, .ptr (nb + 8) 0 0), (7, .ptr (nb + 7) 0 0), (4, .ptr (nb + 4) 0 0), (3, .ptr (nb + 3) 0 0), (2, .ptr (nb + 2) 0 0)]
structure Ix where
 i : Nat
 x : Ac3
def stA1 (t : Ty) (r : Ru) (nb : Nat) (box : Bxs) (i : Nat) (L : List Gr) (x : Ac3) : AState := ⟨tl (apS r nb i), lb nb box (apBox t r (L.map (exX r.lg)) x.own), x.tok, x.nt⟩
def stA2 (t : Ty) (r : Ru) (i : Nat) (nb : Nat) (box : Bxs) (k : Nat) (L : List Gr) (x : Ac3) : AState := ⟨tl ((51, I k) :: (50, I t.edges.length) :: (11, I i) :: apS r nb i), lb nb box (apBox t r (L.map (exX r.lg)) x.own), x.tok, x.nt⟩
def stA3 (t : Ty) (r : Ru) (i k : Nat) (A : List Gr) (nb : Nat) (box : Bxs) (j : Nat) (L : List Gr) (x : Ac3) : AState := ⟨tl ((66, I j) :: (65, I A.length) :: (64, .d (grs A)) :: (51, I k) :: (50, I t.edges.length) :: (11, I i) :: apS r nb i), lb nb box (apBox t r (L.map (exX r.lg)) x.own), x.tok, x.nt⟩
theorem exX_fit {g x : Gr} (hg : g.Fit) (hx : x.Fit) : (exX g x).Fit := by
 have h1 : (cdOf 1 []).Fit := cdOf_fit (by rw [kidN_eq]; simp) (by simp)
 refine cdOf_fit (by rw [kidN_eq]; simp) fun y hy => ?_
 rw [List.mem_singleton] at hy
 subst hy
 exact .mk (by rw [kidN_eq]; simp [Cd.kids]) ⟨by simpa [Cd.m, idM] using hg.n, by simpa [Cd.m, idM] using hg.e⟩ (by simpa [Cd.g] using hx) (by rw [bigN_eq]; simp [Cd.sl]) (by rw [bigN_eq]; simp [Cd.te]) (by simpa [Cd.kids] using h1)
theorem appC_fit {t : Ty} {r : Ru} (hn : r.lg.nodes.length ≤ 40) (he : r.lg.edges.length ≤ 80) (hl : (appL t r).length ≤ 83200) : (appC t r).Fit := by
 refine cdOf_fit (by rw [kidN_eq]; simp; omega) fun y hy => ?_
 obtain ⟨x, hx, rfl⟩ := List.mem_map.1 hy
 obtain ⟨i, _, h1⟩ := mem_flatN.1 hx
 unfold appI at h1
 split at h1
 ·cases h1
 ·obtain ⟨k, _, h2⟩ := mem_flatN.1 h1
  exact exX_fit ⟨by omega, by omega⟩ (appE_fit hn he h2)
set_option maxRecDepth 100000 in
theorem applicable_c (t : Ty) (ht : t.Fit) (r : Ru) (hr : r.Fit) (tok : Tks) (nt : Nat) : DCall Tryz.prog 19 [t.av, r.av] tok nt (.tup [(appR t r).1.av, I (appR t r).2]) tok nt := by
 intro box nb
 have htn := ht.n
 have h1 := typed_c t ht r hr
 have hz := @tpdE_zero t r
 obtain ⟨N, hN⟩ : ∃ N, appR t r = N := ⟨_, rfl⟩
 rw [hN]
 unfold appR at hN
 generalize tpdE t r = E at *
 refine sB Tryz.func19 Tryz.ntmps19 ?_
 intro hbox htok
 simp only at hbox htok
 apply AL.start
 try (simp)
 repeat (refine sR ?_; simp)
 refine Stop.of_d (h1 _ _) ?_
 simp
 try (simp)
 repeat (refine sR ?_; simp)
 by_cases e1 : E = 0
 ·rw [if_neg (by simp [e1])] at hN
  obtain ⟨z1, z2, z3⟩ := hz e1
  obtain ⟨v1, v2⟩ := strR_valid z2
  have hid := identity_c r.lg hr.lg v1
  refine sC ?_
  simp [e1]
  try (simp)
  repeat (refine sR ?_; simp)
  refine Stop.of_d (hid _ _) ?_
  simp
  try (simp)
  repeat (refine sR ?_; simp)
  refine sC ?_
  simp
  try (simp)
  repeat (refine sR ?_; simp)
  refine sN ?_
  have hsm := tyE_small z1
  have hnn : r.lg.nodes.length ≤ 40 := (validG_types v1).1.1
  have hee : r.lg.edges.length ≤ 80 := (validG_types v1).1.2
  refine AL.loopT (fun y : Ix => stA1 t r nb box y.i (flatN (appI t r.lg r.k.nodes) y.i) y.x) (fun y => y.i ≤ r.lg.nodes.length ∧ okL (flatN (appI t r.lg r.k.nodes) y.i) = true ∧ TK tok nt y.x.tok y.x.nt [y.x.own] ∧ ∀ t, y.x.tok t = true → t < y.x.nt) (fun y => r.lg.nodes.length - y.i) ⟨0, ⟨.full, tok, nt⟩⟩ ⟨Nat.zero_le _, rfl, (TK.start htok).full, htok⟩ (Weaks.mk (Nat.le_refl _) rfl (by simp [ToL, lk, lb_at]) (by simp [BoxL, lk, flatN])) ?_
  rintro ⟨i, x⟩ S' ⟨hi, hok, htk, hlt0⟩ hS
  simp only [stA1] at hS hi hok htk hlt0
  subst hS
  have hw := sW (i := i) (by omega)
  try (simp)
  repeat (refine sR ?_; simp)
  refine sC ?_
  simp
  refine ⟨fun hlt => ?_, fun hge => ?_⟩
  ·have hcn := contains_c r.k.nodes i hr.k.n
   have hst : flatN (appI t r.lg r.k.nodes) (i + 1) = flatN (appI t r.lg r.k.nodes) i ++ appI t r.lg r.k.nodes i := rfl
   have hLl : (flatN (appI t r.lg r.k.nodes) i).length ≤ 83200 := by
    have h1 := flatN_le (f := appI t r.lg r.k.nodes) (fun k => appI_len hnn hsm.1 hsm.2 _ k) i
    have h2 : i * 2080 ≤ 40 * 2080 := Nat.mul_le_mul_right _ (by omega)
    omega
   generalize hL2 : flatN (appI t r.lg r.k.nodes) (i + 1) = L2 at *
   generalize flatN (appI t r.lg r.k.nodes) i = L at *
   try (simp [hlt])
   repeat (refine sR ?_; simp [hlt])
   refine Stop.of_d (hcn _ _) ?_
   simp
   by_cases hm : (i : Int) ∈ r.k.nodes
   ·have hI : appI t r.lg r.k.nodes i = [] := if_pos hm
    rw [hI, List.append_nil] at hst
    refine sC ?_
    simp [hm]
    refine sX ?_
    simp only [AU, ↓reduceIte]
    try (simp [hw])
    repeat (refine sR ?_; simp [hw])
    refine sE ?_
    refine ⟨⟨i + 1, x⟩, ⟨hlt, ?_, htk, hlt0⟩, by simp only; omega, ?_⟩
    ·simp only [hL2, hst, hok]
    ·simp only [hL2, hst]
     exact Weaks.mk htk.le rfl (by simp [ToL, lk, lb_at]) (by simp [BoxL, lk])
   ·have hI : appI t r.lg r.k.nodes i = flatN (appE t r.lg i) t.edges.length := if_neg hm
    rw [hI] at hst
    have hbadI : ∀ k y, k < t.edges.length → y ∈ appE t r.lg i k → badG y = true → anyB badG (appL t r) = true := fun k y hk hy hb => List.any_eq_true.2 ⟨y, mem_flatN.2 ⟨i, hlt, by rw [hI]; exact mem_flatN.2 ⟨k, hk, hy⟩⟩, hb⟩
    refine sC ?_
    simp [hm]
    try (simp)
    repeat (refine sR ?_; simp)
    refine sN ?_
    refine AL.loopT (fun y : Ix => stA2 t r i nb box y.i (L ++ flatN (appE t r.lg i) y.i) y.x) (fun y => y.i ≤ t.edges.length ∧ okL (L ++ flatN (appE t r.lg i) y.i) = true ∧ TK tok nt y.x.tok y.x.nt [y.x.own] ∧ ∀ t, y.x.tok t = true → t < y.x.nt) (fun y => t.edges.length - y.i) ⟨0, x⟩ ⟨Nat.zero_le _, by simpa [flatN] using hok, htk, hlt0⟩ (Weaks.mk htk.le rfl (by simp [ToL, lk, lb_at, flatN]) (by simp [BoxL, lk, flatN])) ?_
    clear htk hlt0 hok
    rintro ⟨k, x⟩ S' ⟨hk, hok, htk, hlt0⟩ hS
    simp only [stA2] at hS hk hok htk hlt0
    subst hS
    obtain ⟨M, hM⟩ : ∃ M, L ++ flatN (appE t r.lg i) k = M := ⟨_, rfl⟩
    rw [hM] at hok ⊢
    have hMl : M.length ≤ 100000 := by
     have h1 := flatN_le (f := appE t r.lg i) (fun k => appE_len hnn hsm.1 i k) k
     have h2 : k * 104 ≤ 20 * 104 := Nat.mul_le_mul_right _ (by omega)
     rw [← hM, List.length_append]
     omega
    have hwk := sW (i := k) (by omega)
    try (simp)
    repeat (refine sR ?_; simp)
    refine sC ?_
    simp
    refine ⟨fun hltk => ?_, fun hgek => ?_⟩
    ·have c1 := larger_c t ht r.lg hr.lg (by omega) i k true ⟨by omega, by omega⟩ x.tok x.nt
     have x1 := lrgX_ok t r.lg i k true hlt0
     generalize hX1 : lrgX t r.lg i k true ⟨.full, x.tok, x.nt⟩ = y1 at *
     have c2 := larger_c t ht r.lg hr.lg (by omega) i k false ⟨by omega, by omega⟩ y1.tok y1.nt
     have x2 := lrgX_ok t r.lg i k false x1.adv.lt
     generalize hX2 : lrgX t r.lg i k false ⟨.full, y1.tok, y1.nt⟩ = y2 at *
     have hstk : L ++ flatN (appE t r.lg i) (k + 1) = M ++ appE t r.lg i k := by rw [← hM, flatN, List.append_assoc]
     have hAe : appE t r.lg i k = lrgL t r.lg i k true ++ lrgL t r.lg i k false := rfl
     have hAl := appE_len hnn hsm.1 i k
     have hbadK := fun y => hbadI k y hltk
     generalize hL3 : L ++ flatN (appE t r.lg i) (k + 1) = L3 at *
     have hAf := fun x (hx : x ∈ appE t r.lg i k) => appE_fit hnn hee hx
     generalize appE t r.lg i k = A at *
     generalize lrgL t r.lg i k true = A1 at *
     generalize lrgL t r.lg i k false = A2 at *
     have hA12 : A1.length + A2.length ≤ 104 := by rw [hAe, List.length_append] at hAl; exact hAl
     have htk1 := htk.adv x1.adv
     have htk2 := (htk1.adv x2.adv).swap
     try (simp)
     repeat (refine sR ?_; simp)
     refine Stop.of_d (c1) ?_
     simp
     refine Stop.of_d (c2) ?_
     simp
     refine ⟨⟨by omega, htk2.live⟩, ?_⟩
     have htk3 := htk2.app.tail.tail
     have hlt3 := lt_app y1.own x2.adv.lt
     generalize hT3 : upd (y1.own.kill y2.tok) y2.nt true = tok3 at *
     rw [← List.map_append, ← hAe]
     have hA3 : (A1.length : Int) + A2.length = (A.length : Nat) := by rw [hAe, List.length_append]; rfl
     simp only [hA3]
     refine sN ?_
     refine AL.loopT (fun y : Ix => stA3 t r i k A nb box y.i (M ++ A.take y.i) y.x) (fun y => y.i ≤ A.length ∧ okL (M ++ A.take y.i) = true ∧ TK tok nt y.x.tok y.x.nt [y.x.own] ∧ ∀ t, y.x.tok t = true → t < y.x.nt) (fun y => A.length - y.i) ⟨0, ⟨x.own, tok3, y2.nt + 1⟩⟩ ⟨Nat.zero_le _, by simpa using hok, htk3, hlt3⟩ (Weaks.mk htk3.le rfl (by simp [ToL, lk, lb_at, To.data]) (by simp [BoxL, lk])) ?_
     clear htk hlt0 hok htk1 htk2 htk3 hlt3 x1 x2 c1 c2
     rintro ⟨j, x⟩ S' ⟨hj, hok, htk, hlt0⟩ hS
     simp only [stA3] at hS hj hok htk hlt0
     subst hS
     obtain ⟨Q, hQ⟩ : ∃ Q, M ++ A.take j = Q := ⟨_, rfl⟩
     rw [hQ] at hok ⊢
     have hQl : Q.length ≤ 200000 := by
      rw [← hQ, List.length_append, List.length_take]
      omega
     have hwj := sW (i := j) (by omega)
     try (simp)
     repeat (refine sR ?_; simp)
     refine sC ?_
     simp
     refine ⟨fun hltj => ?_, fun hgej => ?_⟩
     ·have hmem : A[j] ∈ A := List.getElem_mem hltj
      have hgv := graphValid_c A[j] (hAf _ hmem)
      have hadd := okL_add hltj (by rw [hQ]; exact hok)
      have hbd := hbadK A[j] hmem
      have hstj : M ++ A.take (j + 1) = Q ++ [A[j]] := by rw [List.take_succ_eq_append_getElem hltj, ← List.append_assoc, hQ]
      try (simp [hltj])
      repeat (refine sR ?_; simp [hltj])
      refine Stop.of_d (hgv _ _) ?_
      simp
      try (simp)
      repeat (refine sR ?_; simp)
      by_cases e3 : validG A[j] = 0
      ·have hbf : badG A[j] = false := by simp [badG, e3]
       have hidn : (idM r.lg).nodes.length ≤ 1000000 := by simp [idM]; omega
       have hide : (idM r.lg).edges.length ≤ 1000000 := by simp [idM]; omega
       refine sC ?_
       simp [e3]
       generalize A[j] = a at *
       try (simp)
       repeat (refine sR ?_; simp)
       refine Stop.of_d (clone_c (idM r.lg).nodes hidn _ _) ?_
       simp
       refine Stop.of_d (clone_c (idM r.lg).edges hide _ _) ?_
       simp
       refine Stop.of_d (yes_c _ _) ?_
       simp
       try (simp)
       repeat (refine sR ?_; simp)
       have htk2 := (htk.full.app.full.app).tail.tail
       have hlt2 := lt_app .full (lt_app .full hlt0)
       refine ⟨⟨by omega, htk2.live⟩, ?_⟩
       try (simp [hwj])
       repeat (refine sR ?_; simp [hwj])
       refine sE ?_
       refine ⟨⟨j + 1, ⟨_, _, _⟩⟩, ⟨hltj, hadd hbf, htk2.app, lt_app _ hlt2⟩, by simp only; omega, ?_⟩
       simp only [hstj]
       refine Weaks.mk htk2.app.le rfl (by simp [ToL, lk, lb_at]) ?_
       simp [BoxL, lk]
       refine to_snoc ?_ _
       simp [exX, dsub_one, cdOf, Cd.cells_eq, Cd.kind, Cd.kids, Cd.m, Cd.g, Cd.sl, Cd.vars, Cd.te, slots, tests, conds, ints, AM.edges]
      ·have hbt : badG A[j] = true := by simp [badG, e3]
       have b3 : (validG A[j] != 0) = true := by simp [e3]
       rw [if_pos (hbd hbt)] at hN
       refine sC ?_
       simp [b3]
       try (simp)
       repeat (refine sR ?_; simp)
       refine sT ?_
       try simp only [AU]
       refine ⟨by simp, sF hbox htok htk.old htk.le ?_⟩
       simp [packA, ← hN, cdOf, Cd.kind, Cd.kids, Cd.m, Cd.g, Cd.sl, Cd.vars, Cd.te, conds, ints, AM.edges, slots, tests]
     ·refine sX ?_
      simp only [AU, ↓reduceIte]
      have hjA : j = A.length := by omega
      rw [hjA, List.take_length] at hQ
      try (simp [hwk])
      repeat (refine sR ?_; simp [hwk])
      refine sE ?_
      refine ⟨⟨k + 1, x⟩, ⟨hltk, ?_, htk, hlt0⟩, by simp only; omega, ?_⟩
      ·simp only [hL3, hstk, hQ, hok]
      ·simp only [hL3, hstk, hQ]
       exact Weaks.mk htk.le rfl (by simp [ToL, lk, lb_at]) (by simp [BoxL, lk])
    ·refine sX ?_
     simp only [AU, ↓reduceIte]
     have hkm : k = t.edges.length := by omega
     rw [hkm, ← hst] at hM
     try (simp [hw])
     repeat (refine sR ?_; simp [hw])
     refine sE ?_
     refine ⟨⟨i + 1, x⟩, ⟨hlt, ?_, htk, hlt0⟩, by simp only; omega, ?_⟩
     ·simp only [hL2, hM, hok]
     ·simp only [hL2, hM]
      exact Weaks.mk htk.le rfl (by simp [ToL, lk, lb_at]) (by simp [BoxL, lk])
  ·refine sX ?_
   simp only [AU, ↓reduceIte]
   have hin : i = r.lg.nodes.length := by omega
   have hAL : flatN (appI t r.lg r.k.nodes) i = appL t r := by rw [hin]; rfl
   have hAn : anyB badG (appL t r) = false := by
    rw [hAL] at hok
    simpa [okL] using hok
   have hALl : (appL t r).length ≤ 83200 := by
    have h1 := flatN_le (f := appI t r.lg r.k.nodes) (fun k => appI_len hnn hsm.1 hsm.2 _ k) r.lg.nodes.length
    have h2 : r.lg.nodes.length * 2080 ≤ 40 * 2080 := Nat.mul_le_mul_right _ (by omega)
    rw [appL]
    omega
   rw [hAL]
   rw [if_neg (by rw [hAn]; simp)] at hN
   clear hok
   have hlm : (List.map (exX r.lg) (appL t r)).length = (appL t r).length := List.length_map _
   have hfit : (appC t r).Fit := appC_fit (t := t) hnn hee hALl
   have hvc := validC_c r.lg (appC t r) hr.lg hfit
   have hC : appC t r = cdOf 3 ((appL t r).map (exX r.lg)) := rfl
   rw [hC] at hvc hN
   generalize hKK : (appL t r).map (exX r.lg) = KK at *
   by_cases e4 : (appL t r).length = 0
   ·have e4' : KK = [] := List.length_eq_zero_iff.1 (by rw [hlm]; exact e4)
    rw [if_pos e4] at hN
    try (simp [e4'])
    repeat (refine sR ?_; simp [e4'])
    refine sC ?_
    simp [e4']
    try (simp)
    repeat (refine sR ?_; simp)
    refine Stop.of_d (yes_c _ _) ?_
    simp
    refine sT ?_
    try simp only [AU]
    refine ⟨by simp, sF hbox htok htk.old htk.le ?_⟩
    simp [packA, ← hN, cdOf, Cd.kind, Cd.kids, Cd.m, Cd.g, Cd.sl, Cd.vars, Cd.te, conds, ints, AM.edges, slots, tests]
   ·have e4' : ¬ KK = [] := fun h => e4 (by rw [← hlm, h]; rfl)
    rw [if_neg e4] at hN
    try (simp [e4'])
    repeat (refine sR ?_; simp [e4'])
    refine sC ?_
    simp [e4']
    try (simp)
    repeat (refine sR ?_; simp)
    refine Stop.sub (args' := [r.lg.av, (cdOf 3 KK).av]) ⟨Sub.refl _, Sub.agg ⟨Sub.refl _, Sub.data _ _ _, Sub.nil _ _ _, Sub.nil _ _ _, Sub.nil _ _ _, Sub.nil _ _ _, Sub.nil _ _ _, Sub.refl _, Sub.nil _ _ _, trivial⟩, trivial⟩ ?_
    refine Stop.of_d (hvc _ _) ?_
    try (simp)
    repeat (refine sR ?_; simp)
    generalize validC r.lg (cdOf 3 KK) = V at *
    by_cases e5 : V = 0
    ·rw [if_neg (by simp [e5])] at hN
     refine sC ?_
     simp [e5]
     try (simp)
     repeat (refine sR ?_; simp)
     refine sT ?_
     try simp only [AU]
     refine ⟨by simp, sF hbox htok htk.old htk.le ?_⟩
     simp [packA, ← hN, cdOf, Cd.kind, Cd.kids, Cd.m, Cd.g, Cd.sl, Cd.vars, Cd.te, conds, ints, AM.edges, slots, tests]
    ·rw [if_pos e5] at hN
     have b5 : (V != 0) = true := by simp [e5]
     refine sC ?_
     simp [b5]
     try (simp)
     repeat (refine sR ?_; simp)
     refine sT ?_
     try simp only [AU]
     refine ⟨by simp, sF hbox htok htk.old htk.le ?_⟩
     simp [packA, ← hN, cdOf, Cd.kind, Cd.kids, Cd.m, Cd.g, Cd.sl, Cd.vars, Cd.te, conds, ints, AM.edges, slots, tests]
 ·rw [if_pos e1] at hN
  have b1 : (E != 0) = true := by simp [e1]
  refine sC ?_
  simp [b1]
  try (simp)
  repeat (refine sR ?_; simp)
  refine sT ?_
  try simp only [AU]
  refine ⟨by simp, sF hbox htok (fun _ h => h) (Nat.le_refl _) ?_⟩
  simp [packA, ← hN, cdOf, Cd.kind, Cd.kids, Cd.m, Cd.g, Cd.sl, Cd.vars, Cd.te, conds, ints, AM.edges, slots, tests]
end Go.AM
namespace Go.AM
open Go Go.Proofs
def Ac3.ed (x : Ac3) (s : Nat) : Ac3 := ⟨.tok (x.nt + 1), upd (x.own.kill (upd (upd x.tok s false) x.nt true)) (x.nt + 1) true, x.nt + 2⟩
def Ac3.nd (x : Ac3) (s : Nat) : Ac3 := ⟨x.own, upd (upd x.tok s false) x.nt true, x.nt + 1⟩
end Go.AM
namespace Go.AM
open Go Go.Proofs
def delF (keep : List Int) (i : Nat) : List Int := if (i : Int) ∈ keep then [] else [(i : Int)]
def delL (keep : List Int) (n : Nat) : List Int := flatN (delF keep) n
theorem delF_len (keep : List Int) (i : Nat) : (delF keep i).length ≤ 1 := by
 unfold delF
 split <;> simp
theorem mem_delL {keep : List Int} {n : Nat} {x : Int} (h : x ∈ delL keep n) : 0 ≤ x ∧ x < n := by
 obtain ⟨i, hi, h⟩ := mem_flatN.1 h
 unfold delF at h
 split at h
 ·cases h
 ·rw [List.mem_singleton] at h; omega
end Go.AM
namespace Go.AM
open Go Go.Proofs
end Go.AM
namespace Go.AM
open Go Go.Proofs
def zr (n : Nat) : Gr := ⟨List.replicate n 0, []⟩
def dropR : Ru := ⟨eB, zr 2, [], 0, [], zr 1, [], 0, [], ⟨[0], []⟩, ⟨[0], []⟩, true, cdOf 0 []⟩
def awC : Cd := .mk 5 [cdOf 1 []] ⟨[0], []⟩ (zr 2) [] 0 []
def awT : Ty := ⟨[⟨⟨#[65]⟩, -1, false, []⟩], [⟨⟨#[101]⟩, 0, 0, 0, -1, 0, -1⟩]⟩
theorem aw_left : (leftR dropR awC).2 = 0 ∧ (leftR dropR awC).1.kind = 5 ∧ (leftR dropR awC).1.g.nodes.length = 3 := by decide +kernel
theorem aw_app : (appR awT dropR).2 = 0 ∧ (appR awT dropR).1.kind = 3 ∧ (appR awT dropR).1.kids.length = 5 := by decide +kernel
theorem to_frz0 {p q : Nat → Prop} {k n : Nat} : To p q (some (k, 1, List.replicate n [D.raw (.int .i64 0)])) (.msl k 0 n 1) (.d (ints (List.replicate n 0))) := by
 have h := To.frz (p := p) (q := q) (fz := some (k, 1, List.replicate n [D.raw (.int .i64 0)])) (k := k) (sz := 1) (es := List.replicate n [D.raw (.int .i64 0)]) rfl
 simp [ints] at h ⊢
theorem Sub.ds {sz : Nat} {es : List (List D)} {o : Own} {y : D} (h : DSub (.sl sz es) y) : Sub (.osl sz es o) (.d y) := fun G w v r => by
 cases r.asD with
 | d r1 => exact .d (r1.dsub h)
theorem nodes34_c (n : Nat) (hn : n ≤ 10) (tok : Tks) (nt : Nat) : DCall Tryz.prog 33 [I n] tok nt (zr n).av tok nt := by
 intro box nb
 refine sB Tryz.func33 Tryz.ntmps33 ?_
 intro hbox htok
 simp only at hbox htok
 apply AL.start
 try (simp)
 repeat (refine sR ?_; simp)
 refine ⟨by omega, ?_⟩
 refine AL.weak (Weaks.frz (l' := [(2, .ptr (nb + 2) 0 0)]) (loc' := [(2, [[.d (ints (List.replicate n 0)), nilS]])]) 4 1 (rI (List.replicate n 0)) (Nat.le_refl _) rfl (by simp [lk, rowsI_eq]) (by simp [lk]) (by simp) (by simp [ToL, lk, lb_at]) (by simp [BoxL, lk]; exact to_frz0)) ?_
 refine sT ?_
 try simp only [AU]
 refine ⟨by simp, sF hbox htok (fun _ h => h) (Nat.le_refl _) ?_⟩
 simp [packA, zr, AM.edges]
theorem drop34_c (tok : Tks) (nt : Nat) : DCall Tryz.prog 34 [] tok nt dropR.av tok nt := by
 intro box nb
 refine sB Tryz.func34 Tryz.ntmps34 ?_
 intro hbox htok
 simp only at hbox htok
 apply AL.start
 try (simp)
 repeat (refine sR ?_; simp)
 refine Stop.of_d (nodes34_c 2 (by omega) _ _) ?_
 simp
 refine Stop.of_d (nodes34_c 1 (by omega) _ _) ?_
 simp
 try (simp)
 repeat (refine sR ?_; simp)
 refine sT ?_
 try simp only [AU]
 refine ⟨by simp, sF hbox htok (fun _ h => h) (Nat.le_refl _) ?_⟩
 simp [packA, dropR, zr, AM.edges, ints, slots, tests, cdOf, Cd.kind, Cd.kids, Cd.m, Cd.g, Cd.sl, Cd.vars, Cd.te, conds, rI, rE]
theorem dropR_fit : dropR.Fit := ⟨⟨by simp [dropR, zr], by simp [dropR, zr]⟩, ⟨by simp [dropR, zr], by simp [dropR, zr]⟩, ⟨by simp [dropR], by simp [dropR]⟩, ⟨by simp [dropR], by simp [dropR]⟩, by rw [bigN_eq]; simp [dropR], by rw [bigN_eq]; simp [dropR], by rw [bigN_eq]; simp [dropR], by rw [bigN_eq]; simp [dropR]⟩
theorem awC_fit : awC.Fit := .mk (by rw [kidN_eq]; simp [awC, Cd.kids]) ⟨by simp [awC, Cd.m], by simp [awC, Cd.m]⟩ ⟨by simp [awC, Cd.g, zr], by simp [awC, Cd.g, zr]⟩ (by rw [bigN_eq]; simp [awC, Cd.sl]) (by rw [bigN_eq]; simp [awC, Cd.te]) fun x hx => by
 have : x = cdOf 1 [] := by simpa [awC, Cd.kids] using hx
 subst this
 exact cdOf_fit (by rw [kidN_eq]; simp) (by simp)
theorem awT_fit : awT.Fit := ⟨by decide, by decide, by decide, by decide, by simp [awT]⟩
set_option maxRecDepth 100000 in
theorem awake34_c (tok : Tks) (nt : Nat) : DCall Tryz.prog 11 [] tok nt (B true) tok nt := by
 intro box nb
 have h1 := leftP_c dropR awC dropR_fit awC_fit
 have h2 := applicable_c awT awT_fit dropR dropR_fit
 obtain ⟨s1, s2, s3⟩ := aw_left
 obtain ⟨u1, u2, u3⟩ := aw_app
 generalize leftR dropR awC = L at *
 generalize appR awT dropR = A at *
 refine sB Tryz.func11 Tryz.ntmps11 ?_
 intro hbox htok
 simp only at hbox htok
 apply AL.start
 try (simp)
 repeat (refine sR ?_; simp)
 refine Stop.of_d (nodes34_c 2 (by omega) _ _) ?_
 simp
 try (simp)
 repeat (refine sR ?_; simp)
 refine Stop.of_d (drop34_c _ _) ?_
 simp
 refine Stop.sub (args' := [dropR.av, awC.av]) ⟨Sub.refl _, Sub.agg ⟨Sub.refl _, Sub.ds (dsub_one (by simp [cdOf, Cd.cells_eq, Cd.kind, Cd.kids, Cd.m, Cd.g, Cd.sl, Cd.vars, Cd.te, slots, tests, conds, ints, AM.edges])), Sub.data _ _ _, Sub.nil _ _ _, Sub.refl _, Sub.refl _, Sub.nil _ _ _, Sub.refl _, Sub.nil _ _ _, trivial⟩, trivial⟩ ?_
 refine Stop.of_d (h1 _ _) ?_
 simp
 try (simp)
 repeat (refine sR ?_; simp)
 refine Stop.of_d (drop34_c _ _) ?_
 simp
 refine Stop.sub (args' := [awT.av, dropR.av]) ⟨Sub.agg ⟨Sub.ds (dsub_one (by simp [atts])), Sub.ds (dsub_one (by simp)), trivial⟩, Sub.refl _, trivial⟩ ?_
 refine Stop.of_d (h2 _ _) ?_
 simp
 try (simp [s1, s2, s3, u1, u2, u3])
 repeat (refine sR ?_; simp [s1, s2, s3, u1, u2, u3])
 refine sT ?_
 try simp only [AU]
 refine ⟨by simp, sF hbox htok (fun _ h => h) (Nat.le_refl _) ?_⟩
 simp [packA]
end Go.AM
namespace Go.AM
open Go Go.Proofs
def thrT : Ty := ⟨[⟨⟨#[65, 110, 121]⟩, -1, true, []⟩, ⟨⟨#[65]⟩, 0, false, []⟩, ⟨⟨#[66]⟩, 0, false, []⟩, ⟨⟨#[67]⟩, 0, false, []⟩], [⟨⟨#[101]⟩, 0, 0, 0, -1, 0, -1⟩, ⟨⟨#[102]⟩, 0, 0, 0, -1, 0, -1⟩]⟩
theorem thr_err : tyE thrT = 0 := by decide +kernel
def thL : List (List D) := [[.raw (.string ⟨#[65, 110, 121]⟩), .raw (.int .i64 (-1)), .raw (.bool true), .sl 0 []], [.raw (.string ⟨#[65]⟩), .raw (.int .i64 0), .raw (.bool false), .sl 0 []], [.raw (.string ⟨#[66]⟩), .raw (.int .i64 0), .raw (.bool false), .sl 0 []], [.raw (.string ⟨#[67]⟩), .raw (.int .i64 0), .raw (.bool false), .sl 0 []]]
theorem thr_sub : DSub (.sl 4 thL) (nts thrT.nodes) :=
 DSs.sub (es := thL) (es' := thrT.nodes.map NT.cells) ⟨rfl, fun i h1 h2 => by
  have h3 : i = 0 ∨ i = 1 ∨ i = 2 ∨ i = 3 := by simp [thL] at h1; omega
  rcases h3 with rfl | rfl | rfl | rfl <;> exact ds1_cons.2 ⟨.refl, ds1_cons.2 ⟨.refl, ds1_cons.2 ⟨.refl, ds1_cons.2 ⟨.emp, ds1_nil⟩⟩⟩⟩⟩ 4
def stThr (nb : Nat) (box : Bxs) (x : Acc) : AState :=
 ⟨tl [(12, I x.i), (11, I 2), (10, .d (strs [⟨#[101]⟩, ⟨#[102]⟩])), (1, .ptr (nb + 1) 0 0), (0, .ptr (nb + 0) 0 0)], lb nb box [(1, [[.d (nts thrT.nodes), .osl 7 ((thrT.edges.take x.i).map ET.cells) x.own]]), (0, [[nilS, nilS]])], x.tok, x.nt⟩
theorem three34_c (tok : Tks) (nt : Nat) : DCall Tryz.prog 30 [] tok nt thrT.av tok nt := by
 intro box nb
 refine sB Tryz.func30 Tryz.ntmps30 ?_
 intro hbox htok
 simp only at hbox htok
 apply AL.start
 try (simp)
 repeat (refine sR ?_; simp)
 refine ⟨rfl, ?_⟩
 try (simp)
 repeat (refine sR ?_; simp)
 refine ⟨rfl, ?_⟩
 try (simp)
 repeat (refine sR ?_; simp)
 refine sN ?_
 refine AL.loopT (fun x => stThr nb box x) (fun x => x.i ≤ 2 ∧ TK tok nt x.tok x.nt [x.own]) (fun x => 2 - x.i) ⟨0, .full, tok, nt⟩ ⟨by simp, (TK.start htok).full⟩ (Weaks.mk (Nat.le_refl _) rfl (by simp [ToL, lk, lb_at, strs]) (by simp [BoxL, lk]; exact .odsub thr_sub)) ?_
 rintro ⟨i, own, tok', nt'⟩ S ⟨hi, htk⟩ hS
 simp only [stThr] at hS hi htk
 subst hS
 have hi3 : i = 0 ∨ i = 1 ∨ i = 2 := by omega
 rcases hi3 with rfl | rfl | rfl
 ·try (simp)
  repeat (refine sR ?_; simp)
  refine sC ?_
  simp
  try (simp)
  repeat (refine sR ?_; simp)
  refine ⟨htk.live, ?_⟩
  try (simp [show IntKind.i64.wrap 1 = 1 from rfl, show IntKind.i64.wrap 2 = 2 from rfl])
  repeat (refine sR ?_; simp [show IntKind.i64.wrap 1 = 1 from rfl, show IntKind.i64.wrap 2 = 2 from rfl])
  refine sE ?_
  refine ⟨⟨1, _, _, _⟩, ⟨by simp, htk.app⟩, by simp, ?_⟩
  simp only [stThr]
  exact Weaks.mk htk.app.le rfl (by simp [ToL, lk, lb_at]) (by simp [BoxL, lk, thrT])
 ·try (simp)
  repeat (refine sR ?_; simp)
  refine sC ?_
  simp
  try (simp)
  repeat (refine sR ?_; simp)
  refine ⟨⟨by simp [thrT], htk.live⟩, ?_⟩
  try (simp [show IntKind.i64.wrap 1 = 1 from rfl, show IntKind.i64.wrap 2 = 2 from rfl])
  repeat (refine sR ?_; simp [show IntKind.i64.wrap 1 = 1 from rfl, show IntKind.i64.wrap 2 = 2 from rfl])
  refine sE ?_
  refine ⟨⟨2, _, _, _⟩, ⟨by simp, htk.app⟩, by simp, ?_⟩
  simp only [stThr]
  exact Weaks.mk htk.app.le rfl (by simp [ToL, lk, lb_at]) (by simp [BoxL, lk, thrT])
 ·try (simp)
  repeat (refine sR ?_; simp)
  refine sC ?_
  simp
  refine sX ?_
  simp only [AU, ↓reduceIte]
  try (simp)
  repeat (refine sR ?_; simp)
  refine sT ?_
  try simp only [AU]
  refine ⟨by simp, sF hbox htok htk.old htk.le ?_⟩
  simp [packA, show List.take 2 (List.map ET.cells thrT.edges) = List.map ET.cells thrT.edges from rfl]
end Go.AM
namespace Go.AM
open Go
def mkL (b : Nat → Bool) (n : Nat) : List Int := ((List.range n).filter b).map fun (k : Nat) => (k : Int)
theorem mkL_succ (b : Nat → Bool) (n : Nat) : mkL b (n + 1) = if b n = true then mkL b n ++ [(n : Int)] else mkL b n := by
 unfold mkL
 rw [List.range_succ, List.filter_append, List.map_append]
 by_cases h : b n = true
 ·simp [h]
 ·simp [h]
theorem mkL_len (b : Nat → Bool) (n : Nat) : (mkL b n).length ≤ n := by
 unfold mkL
 rw [List.length_map]
 have := List.length_filter_le b (List.range n)
 simpa using this
theorem mkL_mem {b : Nat → Bool} {n : Nat} {x : Int} : x ∈ mkL b n ↔ ∃ k : Nat, k < n ∧ b k = true ∧ (k : Int) = x := by
 simp only [mkL, List.mem_map, List.mem_filter, List.mem_range]
 constructor
 ·rintro ⟨k, ⟨h1, h2⟩, h3⟩; exact ⟨k, h1, h2, h3⟩
 ·rintro ⟨k, h1, h2, h3⟩; exact ⟨k, ⟨h1, h2⟩, h3⟩
theorem mkL_pw (b : Nat → Bool) (n : Nat) : (mkL b n).Pairwise (· < ·) := by
 unfold mkL
 rw [List.pairwise_map]
 refine List.Pairwise.filter _ (List.Pairwise.imp (R := (· < ·)) (fun h => by omega) List.pairwise_lt_range)
theorem mkL_ext {b c : Nat → Bool} {n : Nat} (h : ∀ k, k < n → b k = c k) : mkL b n = mkL c n := by
 unfold mkL
 congr 1
 exact List.filter_congr fun k hk => h k (List.mem_range.1 hk)
def lsK (N E : List Bool) (fs ts : Nat → Nat) : Nat → List Bool
 | 0 => N
 | i + 1 => if E.getD i false = true then ((lsK N E fs ts i).set (fs i) true).set (ts i) true else lsK N E fs ts i
theorem lsK_len (N E : List Bool) (fs ts : Nat → Nat) : ∀ i, (lsK N E fs ts i).length = N.length
 | 0 => rfl
 | i + 1 => by
  unfold lsK
  split
  ·rw [List.length_set, List.length_set]; exact lsK_len N E fs ts i
  ·exact lsK_len N E fs ts i
theorem lsK_yes {N E : List Bool} {fs ts : Nat → Nat} {i : Nat} (h : E.getD i false = true) : lsK N E fs ts (i + 1) = ((lsK N E fs ts i).set (fs i) true).set (ts i) true := by rw [lsK, if_pos h]
theorem lsK_no {N E : List Bool} {fs ts : Nat → Nat} {i : Nat} (h : E.getD i false = false) : lsK N E fs ts (i + 1) = lsK N E fs ts i := by rw [lsK, if_neg (by rw [h]; decide)]
end Go.AM
namespace Go.AM
open Go Go.Proofs
def lsN (g : Gr) (bn be : Nat → Bool) (i k : Nat) : Bool := bn k || (List.range i).any fun (j : Nat) => be j && (decide ((g.edges.getD j default).fr = (k : Int)) || decide ((g.edges.getD j default).to = (k : Int)))
theorem lsN_succ (g : Gr) (bn be : Nat → Bool) (i k : Nat) : lsN g bn be (i + 1) k = (lsN g bn be i k || (be i && (decide ((g.edges.getD i default).fr = (k : Int)) || decide ((g.edges.getD i default).to = (k : Int))))) := by
 unfold lsN
 rw [List.range_succ, List.any_append, Bool.or_assoc]
 simp
def lstP (g : Gr) (bn be : Nat → Bool) : Mo := ⟨mkL (lsN g bn be g.edges.length) g.nodes.length, mkL be g.edges.length⟩
theorem lstP_vp {g : Gr} {bn be : Nat → Bool} (hv : validG g = 0) : VP g (lstP g bn be) := by
 refine ⟨hv, fun x hx => ?_, fun x hx => ?_, pw_getD (mkL_pw _ _), pw_getD (mkL_pw _ _), fun x hx => ?_⟩
 ·obtain ⟨k, hk, _, rfl⟩ := mkL_mem.1 hx
  omega
 ·obtain ⟨k, hk, _, rfl⟩ := mkL_mem.1 hx
  omega
 ·obtain ⟨k, hk, hb, rfl⟩ := mkL_mem.1 hx
  obtain ⟨b1, b2, b3, b4⟩ := validG_edges hv (g.edges.getD k default) (getD_mem hk)
  have key : ∀ y : Int, 0 ≤ y → y < g.nodes.length → ((g.edges.getD k default).fr = y ∨ (g.edges.getD k default).to = y) → y ∈ mkL (lsN g bn be g.edges.length) g.nodes.length := fun y h0 h1 h => by
   refine mkL_mem.2 ⟨y.toNat, by omega, ?_, by omega⟩
   unfold lsN
   rw [Bool.or_eq_true, List.any_eq_true]
   refine .inr ⟨k, List.mem_range.2 hk, ?_⟩
   rw [hb, show ((y.toNat : Nat) : Int) = y by omega]
   simpa using h
  rw [Int.toNat_natCast]
  exact ⟨key _ b1 b2 (.inl rfl), key _ b3 b4 (.inr rfl)⟩
structure Gw (l g : Gr) (n m : Nat) : Prop where
 ex : ∃ T U, g.nodes = l.nodes ++ T ∧ g.edges = l.edges ++ U ∧ T.length ≤ n ∧ U.length ≤ m ∧ (∀ a ∈ T, 0 ≤ a ∧ a < 3) ∧ ∀ e ∈ U, (0 ≤ e.ty ∧ e.ty < 2) ∧ (0 ≤ e.fr ∧ e.fr < g.nodes.length) ∧ 0 ≤ e.to ∧ e.to < g.nodes.length
theorem Gw.refl (l : Gr) : Gw l l 0 0 := ⟨[], [], by simp, by simp, by simp, by simp, by simp, by simp⟩
theorem Gw.node {l g : Gr} {n m : Nat} {a : Int} (h : Gw l g n m) (ha : 0 ≤ a ∧ a < 3) : Gw l ⟨g.nodes ++ [a], g.edges⟩ (n + 1) m := by
 obtain ⟨T, U, h1, h2, h3, h4, h5, h6⟩ := h.ex
 refine ⟨T ++ [a], U, by rw [h1, List.append_assoc], h2, by simp; omega, h4, fun x hx => ?_, fun e he => ?_⟩
 ·rcases List.mem_append.1 hx with hx | hx
  ·exact h5 x hx
  ·rw [List.mem_singleton.1 hx]; exact ha
 ·obtain ⟨k1, k2, k3⟩ := h6 e he
  simp only [List.length_append, List.length_cons, List.length_nil]
  exact ⟨k1, by omega, by omega⟩
theorem Gw.edge {l g : Gr} {n m : Nat} {e : E} (h : Gw l g n m) (h0 : 0 ≤ e.ty ∧ e.ty < 2) (hf : 0 ≤ e.fr ∧ e.fr < g.nodes.length) (ht : 0 ≤ e.to ∧ e.to < g.nodes.length) : Gw l ⟨g.nodes, g.edges ++ [e]⟩ n (m + 1) := by
 obtain ⟨T, U, h1, h2, h3, h4, h5, h6⟩ := h.ex
 refine ⟨T, U ++ [e], h1, by rw [h2, List.append_assoc], h3, by simp; omega, h5, fun x hx => ?_⟩
 rcases List.mem_append.1 hx with hx | hx
 ·exact h6 x hx
 ·rw [List.mem_singleton.1 hx]; exact ⟨h0, hf, ht⟩
theorem Gw.mono {l g : Gr} {n m n' m' : Nat} (h : Gw l g n m) (h1 : n ≤ n') (h2 : m ≤ m') : Gw l g n' m' := by
 obtain ⟨T, U, k1, k2, k3, k4, k5, k6⟩ := h.ex
 exact ⟨T, U, k1, k2, by omega, by omega, k5, k6⟩
theorem Gw.len {l g : Gr} {n m : Nat} (h : Gw l g n m) : l.nodes.length ≤ g.nodes.length ∧ g.nodes.length ≤ l.nodes.length + n ∧ g.edges.length ≤ l.edges.length + m := by
 obtain ⟨T, U, k1, k2, k3, k4, k5, k6⟩ := h.ex
 rw [k1, k2, List.length_append, List.length_append]
 omega
theorem Gw.pre {l g : Gr} {n m : Nat} (h : Gw l g n m) (hv : validG l = 0) (h1 : l.nodes.length + n ≤ 40) (h2 : l.edges.length + m ≤ 80) : Pre l g := by
 have hl := h.len
 obtain ⟨T, U, k1, k2, k3, k4, k5, k6⟩ := h.ex
 obtain ⟨v0, v1, v2⟩ := validG_types hv
 refine ⟨hv, validG_of (by omega) (fun x hx => ?_) (fun e he => ?_), ⟨T, k1⟩, ⟨U, k2⟩⟩
 ·rw [k1] at hx
  rcases List.mem_append.1 hx with hx | hx
  ·exact v1 x hx
  ·have := k5 x hx
   exact within_of this.1 (by omega)
 ·rw [k2] at he
  rcases List.mem_append.1 he with he | he
  ·have := v2 e he
   rw [fitsB_iff] at this ⊢
   exact ⟨this.1, by omega, by omega⟩
  ·obtain ⟨t1, t2, t3⟩ := k6 e he
   rw [fitsB_iff]
   exact ⟨within_of t1.1 (by omega), t2, t3⟩
structure InK (g : Gr) : Prop where
 n : ∀ a ∈ g.nodes, 0 ≤ a ∧ a < 3
 e : ∀ x ∈ g.edges, 0 ≤ x.ty ∧ x.ty < 2
theorem Gw.inK {l g : Gr} {n m : Nat} (h : Gw l g n m) (hl : InK l) : InK g := by
 obtain ⟨T, U, k1, k2, k3, k4, k5, k6⟩ := h.ex
 refine ⟨fun a ha => ?_, fun x hx => ?_⟩
 ·rw [k1] at ha
  rcases List.mem_append.1 ha with ha | ha
  ·exact hl.n a ha
  ·exact k5 a ha
 ·rw [k2] at hx
  rcases List.mem_append.1 hx with hx | hx
  ·exact hl.e x hx
  ·exact (k6 x hx).1
theorem madeG_in (x : Dr) : InK (madeG x) := by
 refine ⟨fun a ha => ?_, fun e he => ?_⟩
 ·simp only [madeG, mN, List.mem_map] at ha
  obtain ⟨k, hk, rfl⟩ := ha
  omega
 ·simp only [madeG] at he
  split at he
  ·simp at he
  ·simp only [mE, List.mem_map] at he
   obtain ⟨k, hk, rfl⟩ := he
   simp only
   omega
theorem exG_in {g : Gr} {p : Mo} (hp : VP g p) (h : InK g) : InK (exG g p) := by
 refine ⟨fun a ha => ?_, fun x hx => ?_⟩
 ·simp only [exG, List.mem_map] at ha
  obtain ⟨k, hk, rfl⟩ := ha
  have := hp.n k hk
  exact h.n _ (getD_mem (by omega))
 ·simp only [exG, List.mem_map] at hx
  obtain ⟨k, hk, rfl⟩ := hx
  have := hp.e k hk
  exact h.e (g.edges.getD k.toNat default) (getD_mem (by omega))
theorem gwN_ex (ns cs : List Int) : ∀ i, ∃ T, gwN ns cs i = ns ++ T ∧ T.length ≤ i ∧ ∀ a ∈ T, 0 ≤ a ∧ a < 3
 | 0 => ⟨[], by simp [gwN], by simp, by simp⟩
 | i + 1 => by
  obtain ⟨T, h1, h2, h3⟩ := gwN_ex ns cs i
  by_cases h : i < cs.length
  ·by_cases h0 : 1 ≤ i
   ·rw [gwN_more h h0]
    split
    ·refine ⟨T ++ [cs[i] / 2 % 3], by rw [h1, List.append_assoc], by simp; omega, fun a ha => ?_⟩
     rcases List.mem_append.1 ha with ha | ha
     ·exact h3 a ha
     ·rw [List.mem_singleton.1 ha]; omega
    ·exact ⟨T, h1, by omega, h3⟩
   ·refine ⟨[], ?_, by simp, by simp⟩
    rw [gwN, List.drop_eq_nil_of_le (by simp; omega)]
    simp
  ·refine ⟨T, ?_, by omega, h3⟩
   rw [← h1]
   unfold gwN
   rw [List.take_of_length_le (by omega), List.take_of_length_le (by omega)]
theorem gwE_ex {n : Nat} (hn : 0 < n) (es : List E) (cs : List Int) : ∀ i, ∃ U, gwE n es cs i = es ++ U ∧ U.length ≤ i ∧ ∀ e ∈ U, (0 ≤ e.ty ∧ e.ty < 2) ∧ (0 ≤ e.fr ∧ e.fr < n) ∧ 0 ≤ e.to ∧ e.to < n
 | 0 => ⟨[], by simp [gwE], by simp, by simp⟩
 | i + 1 => by
  obtain ⟨T, h1, h2, h3⟩ := gwE_ex hn es cs i
  by_cases h : i < cs.length
  ·by_cases h0 : 4 ≤ i
   ·rw [gwE_more h h0]
    refine ⟨T ++ [⟨cs[i] % 2, cs[i] / 2 % n, cs[i] / 16 % n⟩], by rw [h1, List.append_assoc], by simp; omega, fun a ha => ?_⟩
    rcases List.mem_append.1 ha with ha | ha
    ·exact h3 a ha
    ·rw [List.mem_singleton.1 ha]
     have hnz : (n : Int) ≠ 0 := by omega
     have hp : (0 : Int) < n := by omega
     exact ⟨by simp only; omega, ⟨Int.emod_nonneg _ hnz, Int.emod_lt_of_pos _ hp⟩, Int.emod_nonneg _ hnz, Int.emod_lt_of_pos _ hp⟩
   ·refine ⟨[], ?_, by simp, by simp⟩
    rw [gwE, List.drop_eq_nil_of_le (by simp; omega)]
    simp
  ·refine ⟨T, ?_, by omega, h3⟩
   rw [← h1]
   unfold gwE
   rw [List.take_of_length_le (by omega), List.take_of_length_le (by omega)]
theorem gwG_gw (g : Gr) (cs : List Int) : Gw g (gwG g cs) 4 8 := by
 obtain ⟨T, h1, h2, h3⟩ := gwN_ex g.nodes cs (min cs.length 4)
 by_cases h0 : (gwN g.nodes cs (min cs.length 4)).length = 0
 ·refine ⟨T, [], h1, ?_, by omega, by simp, h3, by simp⟩
  simp only [gwG, if_pos h0, List.append_nil]
 ·obtain ⟨U, k1, k2, k3⟩ := gwE_ex (show 0 < (gwN g.nodes cs (min cs.length 4)).length by omega) g.edges cs (min cs.length 8)
  refine ⟨T, U, h1, ?_, by omega, by omega, h3, k3⟩
  simp only [gwG, if_neg h0]
  exact k1
def upG (g : Gr) : Gr := ⟨g.nodes.map fun a => a + 1, g.edges⟩
theorem upG_len (g : Gr) : (upG g).nodes.length = g.nodes.length := by simp [upG]
theorem upG_valid {g : Gr} (hv : validG g = 0) (h : InK g) : validG (upG g) = 0 := by
 obtain ⟨v0, v1, v2⟩ := validG_types hv
 refine validG_of (by rw [upG_len]; exact v0) (fun x hx => ?_) (fun e he => ?_)
 ·simp only [upG, List.mem_map] at hx
  obtain ⟨a, ha, rfl⟩ := hx
  have := h.n a ha
  exact within_of (by omega) (by omega)
 ·rw [upG_len]; exact v2 e he
theorem upG_pre {l g : Gr} (h : Pre l g) (h1 : InK l) (h2 : InK g) : Pre (upG l) (upG g) := by
 obtain ⟨T, ht⟩ := h.n
 obtain ⟨U, hu⟩ := h.e
 exact ⟨upG_valid h.va h1, upG_valid h.vb h2, ⟨T.map fun a => a + 1, by simp only [upG]; rw [ht, List.map_append]⟩, ⟨U, hu⟩⟩
theorem upG_ex {g : Gr} {p : Mo} (hp : VP g p) : exG (upG g) p = upG (exG g p) := by
 simp only [exG, upG, List.map_map]
 refine congrArg (fun l => Gr.mk l _) (List.map_congr_left fun k hk => ?_)
 have := hp.n k hk
 have hl : k.toNat < g.nodes.length := by omega
 simp [hl]
theorem upG_vp {g : Gr} {p : Mo} (hp : VP g p) (h : InK g) : VP (upG g) p := ⟨upG_valid hp.va h, by rw [upG_len]; exact hp.n, hp.e, hp.sn, hp.se, hp.c⟩
theorem upG_id (g : Gr) : idM (upG g) = idM g := by unfold idM; rw [upG_len]; rfl
end Go.AM
namespace Go.AM
open Go Go.Proofs
def RS (n : Int) (s t : St2) : Prop := (s.2 = 0 ∧ t.2 = 0 ∧ s.1 + t.1 = 2000 ∧ 0 ≤ s.1 ∧ s.1 ≤ n) ∨ (s.2 = 3 ∧ t.2 = 3)
theorem RS.up {n m : Int} {s t : St2} (h : RS n s t) (hnm : n ≤ m) : RS m s t := by
 rcases h with ⟨h1, h2, h3, h4, h5⟩ | h
 ·exact .inl ⟨h1, h2, h3, h4, by omega⟩
 ·exact .inr h
theorem RS.zero {n : Int} {s t : St2} (h : RS n s t) (h0 : s.2 = 0) : t.2 = 0 := by
 rcases h with h | h
 ·exact h.2.1
 ·rw [h.1] at h0; cases h0
end Go.AM
namespace Go.AM
open Go Go.Proofs
theorem nil_fb (k : Int) : (cdOf k []).Fit ∧ (cdOf k []).Bare := ⟨cdOf_fit (by rw [kidN_eq]; simp) (by simp), bare_cdOf (by simp)⟩
end Go.AM
namespace Go.AM
open Go Go.Proofs
end Go.AM
namespace Go.AM
open Go Go.ChangeShapes
variable {P : Program}
def Rd (w : World) (cs : List Value) (ds : List D) : Prop := cs.length = ds.length ∧ ∀ i (h1 : i < cs.length) (h2 : i < ds.length), RVd w.cell? (fun _ => True) ds[i] cs[i]
theorem Rd.append {w : World} {cs cs' : List Value} {ds ds' : List D} (h : Rd w cs ds) (k : Rd w cs' ds') : Rd w (cs ++ cs') (ds ++ ds') := by
 refine ⟨by simp [h.1, k.1], fun i h1 h2 => ?_⟩
 by_cases hi : i < cs.length
 ·rw [List.getElem_append_left hi, List.getElem_append_left (by rw [← h.1]; exact hi)]
  exact h.2 i hi _
 ·have hl := h.1
  rw [List.getElem_append_right (by omega), List.getElem_append_right (by omega)]
  have := k.2 (i - cs.length) (by simp at h1; omega) (by have := k.1; simp at h1; omega)
  simpa [hl] using this
theorem Rd.one {w : World} {c : Value} {d : D} (h : RVd w.cell? (fun _ => True) d c) : Rd w [c] [d] := ⟨rfl, fun i h1 h2 => by
 have : i = 0 := by simpa using h1
 subst this
 exact h⟩
def Light {H : Type} (P : Program) (T : TypeId) (d : DataW H) : Prop := (d.weights P T).all (· ≤ reachBytes) = true
structure Rdr (P : Program) (T : TypeId) (α : Type) where
 enc : α → List D
 ok : α → Prop
 len : ∀ x, (enc x).length = P.cellsOf T
 sound : ∀ {H : Type} (e : TypeId × Value → H) (w : World) (base : Nat) (spare : Nat → Bool) (held : Bool) (fuel : Nat) (cs : List Value) (x : DataW H × List MemPlace),
  DataW.trod e P w base spare held fuel T cs = some x → ∃ y, Rd w cs (enc y) ∧ (Light P T x.1 → ok y)
def Rdr.int {T : TypeId} {k : IntKind} (h : P.underlying T = some (.int k)) (hc : P.cellsOf T = 1) : Rdr P T Int where
 enc n := [.raw (.int k n)]
 ok n := (Lit.int k n).wf = true
 len _ := by simp [hc]
 sound e w base spare held fuel cs x hx := by
  cases fuel with
  | zero => simp [DataW.trod] at hx
  | succ n =>
   unfold DataW.trod at hx
   rw [h] at hx
   split at hx <;> simp_all
   rename_i k' n' _
   exact ⟨n', Rd.one (.raw rfl), fun _ => hx.1.2⟩
theorem cells_spec {w : World} {base : Nat} {a : Addr} {n : Nat} {l : List Value} (h : w.cells? base a n = some l) : l.length = n ∧ ∀ i (hi : i < l.length), w.cell? (a.add i) = some l[i] := by
 unfold World.cells? at h
 split at h
 ·have h1 : l.length = n := by have := mapM_some_length h; simpa using this
  refine ⟨h1, fun i hi => ?_⟩
  have hin : i < n := by omega
  have := mapM_some_get h i i (by simp [hin])
  rw [this]
  exact List.getElem?_eq_getElem hi
 ·cases h
theorem light_slice {H : Type} {T E : TypeId} (h : P.underlying T = some (.slice E)) {elems rest : List (DataW H)} (hl : Light P T (.slice elems rest)) : elems.length * P.bytesOf E ≤ reachBytes ∧ ∀ d ∈ elems, Light P E d := by
 unfold Light at hl ⊢
 simp only [DataW.weights, h, List.all_cons, List.all_append, Bool.and_eq_true, decide_eq_true_eq] at hl
 refine ⟨Nat.le_trans (Nat.mul_le_mul_right _ (Nat.le_add_right _ _)) hl.1, ?_⟩
 have key : ∀ l : List (DataW H), (DataW.weightsAll P E l).all (· ≤ reachBytes) = true → ∀ d ∈ l, (d.weights P E).all (· ≤ reachBytes) = true := by
  intro l
  induction l with
  | nil => intro _ d hd; simp at hd
  | cons x l ih =>
   intro hx d hd
   simp only [DataW.weightsAll, List.all_append, Bool.and_eq_true] at hx
   rcases List.mem_cons.1 hd with rfl | hd
   ·exact hx.1
   ·exact ih hx.2 d hd
 exact key elems hl.2.1
def Rdr.slice {T E : TypeId} {α : Type} (r : Rdr P E α) (h : P.underlying T = some (.slice E)) (hc : P.cellsOf T = 1) : Rdr P T (List α) where
 enc l := [.sl (P.cellsOf E) (l.map r.enc)]
 ok l := (∀ x ∈ l, r.ok x) ∧ l.length * P.bytesOf E ≤ reachBytes
 len _ := by simp [hc]
 sound e w base spare held fuel cs x hx := by
  rcases DataW.trod_slice h hx with ⟨rfl, rfl⟩ | ⟨a, len, cap, elems, rest, n, rfl, rfl, rfl, hb, hl, hm, hel, hat, _⟩
  ·exact ⟨[], Rd.one (.sl (es := []) (fun _ _ => default) (Nat.le_refl _) (by decide) (by simp) (by simp) (by simp) (by simp)), fun _ => ⟨by simp, by simp⟩⟩
  ·have key : ∀ i (hi : i < elems.length), ∃ cs y, cs.length = P.cellsOf E ∧ (∀ j (hj : j < cs.length), w.cell? (a.add (i * P.cellsOf E + j)) = some cs[j]) ∧ Rd w cs (r.enc y) ∧ (Light P E elems[i].1 → r.ok y) := by
    intro i hi
    have h1 := hat i (by omega)
    have h2 : elems[i]? = some elems[i] := List.getElem?_eq_getElem hi
    rw [h2, Option.bind_eq_some_iff] at h1
    obtain ⟨cs, hcs, htr⟩ := h1
    obtain ⟨hcl, hcc⟩ := cells_spec hcs
    obtain ⟨y, hy, hok⟩ := r.sound e w base spare held n cs _ htr
    refine ⟨cs, y, hcl, fun j hj => ?_, hy, hok⟩
    rw [← Addr.add_add]
    exact hcc j hj
   have pick : ∀ m, m ≤ elems.length → ∃ ys : List α, ys.length = m ∧ (∀ i (hi : i < ys.length) (hi2 : i < elems.length), ∃ cs, cs.length = P.cellsOf E ∧ (∀ j (hj : j < cs.length), w.cell? (a.add (i * P.cellsOf E + j)) = some cs[j]) ∧ Rd w cs (r.enc ys[i]) ∧ (Light P E elems[i].1 → r.ok ys[i])) := by
    intro m
    induction m with
    | zero => intro _; exact ⟨[], rfl, fun i hi => by simp at hi⟩
    | succ m ih =>
     intro hm'
     obtain ⟨ys, hys, hall⟩ := ih (by omega)
     obtain ⟨cs, y, g1, g2, g3, g4⟩ := key m (by omega)
     refine ⟨ys ++ [y], by simp [hys], fun i hi hi2 => ?_⟩
     by_cases him : i < ys.length
     ·rw [List.getElem_append_left him]
      exact hall i him hi2
     ·have : i = m := by simp at hi; omega
      subst this
      have e1 : (ys ++ [y])[i] = y := by
       rw [List.getElem_append_right (by omega)]
       simp
      rw [e1]
      exact ⟨cs, g1, g2, g3, g4⟩
   obtain ⟨ys, hys, hall⟩ := pick elems.length (Nat.le_refl _)
   refine ⟨ys, Rd.one ?_, fun hli => ?_⟩
   ·have hlen : len = ys.length := by omega
    subst hlen
    have hml : ys.length = (ys.map r.enc).length := by simp
    rw [hml]
    refine .sl (fun i j => (w.cell? (a.add (i * P.cellsOf E + j))).getD default) (by simpa using hl) hm (fun e he => ?_) (fun _ => ⟨a, rfl⟩) (fun a' ha' i j hi hj => ?_) (fun i j hi hj => ?_)
    ·obtain ⟨y, _, rfl⟩ := List.mem_map.1 he
     exact r.len y
    ·cases ha'
     obtain ⟨cs, g1, g2, _⟩ := hall i (by simpa using hi) (by simp at hi; omega)
     rw [g2 j (by omega)]
     exact ⟨trivial, rfl⟩
    ·obtain ⟨cs, g1, g2, g3, _⟩ := hall i (by simpa using hi) (by simp at hi; omega)
     simp only [List.getElem_map] at hj ⊢
     have hjc : j < cs.length := by rw [g3.1]; exact hj
     rw [g2 j hjc]
     exact g3.2 j hjc hj
   ·obtain ⟨w1, w2⟩ := light_slice h hli
    refine ⟨fun y hy => ?_, by simpa [hys] using w1⟩
    obtain ⟨i, hi, rfl⟩ := List.getElem_of_mem hy
    obtain ⟨_, _, _, _, h4⟩ := hall i hi (by omega)
    exact h4 (w2 _ (List.mem_map.2 ⟨_, List.getElem_mem _, rfl⟩))
def Rdr.map {T : TypeId} {α β : Type} (r : Rdr P T α) (f : α → β) (enc : β → List D) (ok : β → Prop) (he : ∀ x, enc (f x) = r.enc x) (hok : ∀ x, r.ok x → ok (f x)) (hl : ∀ y, (enc y).length = P.cellsOf T) : Rdr P T β where
 enc := enc
 ok := ok
 len := hl
 sound e w base spare held fuel cs x hx := by
  obtain ⟨y, h1, h2⟩ := r.sound e w base spare held fuel cs x hx
  exact ⟨f y, by rw [he]; exact h1, fun hl => hok y (h2 hl)⟩
def Rdr.sliceN {T E : TypeId} {α : Type} (r : Rdr P E α) (n : Nat) (h : P.underlying T = some (.slice E)) (hc : P.cellsOf T = 1) (hn : P.cellsOf E = n) : Rdr P T (List α) where
 enc l := [.sl n (l.map r.enc)]
 ok l := (∀ x ∈ l, r.ok x) ∧ l.length * P.bytesOf E ≤ reachBytes
 len _ := by simp [hc]
 sound := by
  subst hn
  exact (Rdr.slice r h hc).sound
theorem list2 {α : Type} {l : List α} (h : l.length = 2) : l = [l[0]'(by omega), l[1]'(by omega)] := by
 match l, h with
 | [p, q], _ => rfl
theorem list3 {α : Type} {l : List α} (h : l.length = 3) : l = [l[0]'(by omega), l[1]'(by omega), l[2]'(by omega)] := by
 match l, h with
 | [p, q, r], _ => rfl
def Rdr.struct2 {T A B : TypeId} {α β : Type} (r : Rdr P A α) (s : Rdr P B β) {f0 f1 : Field} (h : P.underlying T = some (.struct #[f0, f1])) (hA : f0.type = A) (hB : f1.type = B) (h0 : f0.offset = 0) (h1 : f1.offset = P.cellsOf A)
  (hc : P.cellsOf T = P.cellsOf A + P.cellsOf B) : Rdr P T (α × β) where
 enc x := r.enc x.1 ++ s.enc x.2
 ok x := r.ok x.1 ∧ s.ok x.2
 len x := by simp [r.len, s.len, hc]
 sound e w base spare held fuel cs x hx := by
  obtain ⟨xs, n, rfl, rfl, hl, hxs, hat⟩ := DataW.trod_struct h hx
  have hxs' : xs.length = 2 := hxs
  have g0 := hat 0 f0 rfl
  have g1 := hat 1 f1 rfl
  have e0 : xs[0]? = some (xs[0]'(by omega)) := List.getElem?_eq_getElem (by omega)
  have e1 : xs[1]? = some (xs[1]'(by omega)) := List.getElem?_eq_getElem (by omega)
  rw [e0, h0, hA] at g0
  rw [e1, h1, hB] at g1
  obtain ⟨y, k1, k2⟩ := r.sound e w base spare held n _ _ g0
  obtain ⟨z, m1, m2⟩ := s.sound e w base spare held n _ _ g1
  refine ⟨(y, z), ?_, fun hli => ?_⟩
  rotate_left
  ·unfold Light at hli k2 m2
   have e2 : xs = [xs[0]'(by omega), xs[1]'(by omega)] := list2 hxs'
   rw [e2] at hli
   simp only [List.map_cons, List.map_nil, DataW.weights, h, DataW.weightsEach, hA, hB, List.all_append, Bool.and_eq_true] at hli
   exact ⟨k2 hli.1, m2 hli.2.1⟩
  have hcs : cs = (cs.drop 0).take (P.cellsOf A) ++ (cs.drop (P.cellsOf A)).take (P.cellsOf B) := by
   have : (cs.drop (P.cellsOf A)).take (P.cellsOf B) = cs.drop (P.cellsOf A) := List.take_of_length_le (by simp; omega)
   rw [this, List.drop_zero, List.take_append_drop]
  rw [hcs]
  exact k1.append m1
def Rdr.struct3 {T A B C : TypeId} {α β γ : Type} (r : Rdr P A α) (s : Rdr P B β) (t : Rdr P C γ) {f0 f1 f2 : Field} (h : P.underlying T = some (.struct #[f0, f1, f2])) (hA : f0.type = A) (hB : f1.type = B) (hC : f2.type = C)
  (h0 : f0.offset = 0) (h1 : f1.offset = P.cellsOf A) (h2 : f2.offset = P.cellsOf A + P.cellsOf B) (hc : P.cellsOf T = P.cellsOf A + P.cellsOf B + P.cellsOf C) : Rdr P T (α × β × γ) where
 enc x := r.enc x.1 ++ (s.enc x.2.1 ++ t.enc x.2.2)
 ok x := r.ok x.1 ∧ s.ok x.2.1 ∧ t.ok x.2.2
 len x := by simp [r.len, s.len, t.len, hc]; omega
 sound e w base spare held fuel cs x hx := by
  obtain ⟨xs, n, rfl, rfl, hl, hxs, hat⟩ := DataW.trod_struct h hx
  have hxs' : xs.length = 3 := hxs
  have g0 := hat 0 f0 rfl
  have g1 := hat 1 f1 rfl
  have g2 := hat 2 f2 rfl
  have e0 : xs[0]? = some (xs[0]'(by omega)) := List.getElem?_eq_getElem (by omega)
  have e1 : xs[1]? = some (xs[1]'(by omega)) := List.getElem?_eq_getElem (by omega)
  have e2 : xs[2]? = some (xs[2]'(by omega)) := List.getElem?_eq_getElem (by omega)
  rw [e0, h0, hA] at g0
  rw [e1, h1, hB] at g1
  rw [e2, h2, hC] at g2
  obtain ⟨y, k1, k2⟩ := r.sound e w base spare held n _ _ g0
  obtain ⟨z, m1, m2⟩ := s.sound e w base spare held n _ _ g1
  obtain ⟨q, p1, p2⟩ := t.sound e w base spare held n _ _ g2
  refine ⟨(y, z, q), ?_, fun hli => ?_⟩
  rotate_left
  ·unfold Light at hli k2 m2 p2
   have e2 : xs = [xs[0]'(by omega), xs[1]'(by omega), xs[2]'(by omega)] := list3 hxs'
   rw [e2] at hli
   simp only [List.map_cons, List.map_nil, DataW.weights, h, DataW.weightsEach, hA, hB, hC, List.all_append, Bool.and_eq_true] at hli
   exact ⟨k2 hli.1, m2 hli.2.1, p2 hli.2.2.1⟩
  have hcs : cs = (cs.drop 0).take (P.cellsOf A) ++ ((cs.drop (P.cellsOf A)).take (P.cellsOf B) ++ (cs.drop (P.cellsOf A + P.cellsOf B)).take (P.cellsOf C)) := by
   have : (cs.drop (P.cellsOf A + P.cellsOf B)).take (P.cellsOf C) = cs.drop (P.cellsOf A + P.cellsOf B) := List.take_of_length_le (by simp; omega)
   rw [this, ← List.drop_drop, List.take_append_drop, List.drop_zero, List.take_append_drop]
  rw [hcs]
  exact k1.append (m1.append p1)
def G0 : Gh := ⟨fun _ => none, fun _ => none, fun _ => .whole, 0⟩
def m0 : AMem := ⟨fun _ => none, 0, fun _ => false, 0⟩
theorem G0_ps (a : Addr) : G0.ps a := trivial
theorem relM_start (W : World) : RelM G0 m0 W := by
 constructor
 case box => intro k rows b sz h; cases h
 case nobox => intro k _; rfl
 case inj => intro k k' b sz sz' h; cases h
 case nb => intro k _; rfl
 case nt => rfl
 case toks => intro t h; cases h
 case tokb => intro t g h; cases h
 case tinj => intro t t' g h; cases h
 case tnt => intro t x h; cases h
 case fresh => intro b _; rfl
theorem RVd.start {W : World} {d : D} {v : Value} (h : RVd W.cell? (fun _ => True) d v) : RVd W.cell? G0.ps d v := h.mono fun a u _ hc => ⟨G0_ps a, hc⟩
theorem Rdr.agg {T : TypeId} {α : Type} (r : Rdr P T α) {W : World} {base base' : Nat} {sp : Nat → Bool} {held : Bool} {H : Type} {enc : TypeId × Value → H} {v : Value} {d : DataW H} {p : List MemPlace}
  (hs : aggT P T = some true) (hv : Value.okWide P W .any base T v) (h : DataW.Trod enc P W base' sp held T v d p) (hli : Light P T d) : ∃ y, r.ok y ∧ RV G0 W (.agg ((r.enc y).map .d)) v := by
 have hcs : ∃ cs, v = .agg cs := by
  unfold aggT at hs
  unfold Value.okWide at hv
  cases hu : P.underlying T with
  | none => rw [hu] at hs; simp at hs
  | some u =>
   rw [hu] at hs hv
   cases u <;> simp at hs hv <;> exact ⟨_, hv.choose_spec.1⟩
 obtain ⟨cs, rfl⟩ := hcs
 obtain ⟨fuel, h⟩ := h
 obtain ⟨y, ⟨h1, h2⟩, hok⟩ := r.sound enc W base' sp held fuel _ _ h
 refine ⟨y, hok hli, ?_⟩
 simp only [Value.cells] at h1 h2
 have := RV.agg (G := G0) (w := W) (cs := (r.enc y).map .d) (vs := cs.toList) (by simp [h1]) (fun i g1 g2 => by
  simp only [List.getElem_map]
  exact .d (h2 i g2 (by simpa using g1)).start) (fun v hv => by
  obtain ⟨i, hi, rfl⟩ := List.getElem_of_mem hv
  exact (h2 i hi (by omega)).one)
 simpa using this
theorem Rdr.cell {T : TypeId} {α : Type} (r : Rdr P T α) {W : World} {base base' : Nat} {sp : Nat → Bool} {held : Bool} {H : Type} {enc : TypeId × Value → H} {v : Value} {d : DataW H} {p : List MemPlace} (f : α → D)
  (hs : aggT P T = some false) (hf : ∀ y, r.enc y = [f y]) (hv : Value.okWide P W .any base T v) (h : DataW.Trod enc P W base' sp held T v d p) (hli : Light P T d) : ∃ y, r.ok y ∧ RV G0 W (.d (f y)) v := by
 obtain ⟨fuel, h⟩ := h
 obtain ⟨y, ⟨h1, h2⟩, hok⟩ := r.sound enc W base' sp held fuel _ _ h
 refine ⟨y, hok hli, ?_⟩
 rw [hf] at h1
 have hcs : v.cells.toList = [v] := by
  cases v with
  | agg cs =>
   exfalso
   unfold aggT at hs
   unfold Value.okWide Cell.okWide Cell.ok at hv
   cases hu : P.underlying T with
   | none => rw [hu] at hs; simp at hs
   | some u =>
    rw [hu] at hs hv
    cases u <;> simp_all
  | _ => rfl
 have := h2 0 (by rw [h1]; simp) (by rw [hf]; simp)
 simp only [hf, List.getElem_cons_zero] at this
 have e : v.cells.toList[0]'(by rw [h1]; simp) = v := by simp [hcs]
 rw [e] at this
 exact .d this.start
theorem light_arg {H : Type} {ts : List TypeId} {ds : List (DataW H)} (hz : (DataW.weightsEach P ts ds).all (· ≤ reachBytes) = true) {j : Nat} {T : TypeId} {d : DataW H} (ht : ts[j]? = some T) (hd : ds[j]? = some d) : Light P T d :=
 List.all_eq_true.2 fun x hx => List.all_eq_true.1 hz x (DataW.weights_mem_each ht hd x hx)
theorem arg_agg {ps : Array TypeId} {args : Array Value} {W : World} {base base' : Nat} {sp : Nat → Bool} {held : Bool} {H : Type} {enc : TypeId × Value → H} (hval : ∀ (j : Nat) t v, ps[j]? = some t → args[j]? = some v → Value.okWide P W .any base t v)
  (j : Nat) (T : TypeId) (v : Value) (hp : ps[j]? = some T) (ha : args[j]? = some v) {α : Type} (r : Rdr P T α) {d : DataW H} {p : List MemPlace} (hs : aggT P T = some true) (h : DataW.Trod enc P W base' sp held T v d p) (hli : Light P T d) :
  ∃ y, r.ok y ∧ RV G0 W (.agg ((r.enc y).map .d)) v := r.agg hs (hval j T v hp ha) h hli
theorem le_old {W W' : World} {G' : Gh} (h : Le G0 W G' W') (b : Nat) (hb : b < W.heap.size) : W'.heap[b]? = W.heap[b]? := (h.whole b hb rfl).2
theorem le_kept {W W' : World} {G' : Gh} (h : Le G0 W G' W') (may : MemPlace → Prop) : W.keptBut W' may := by
 refine ⟨h.os, h.output, fun i hi => ?_⟩
 rw [le_old h i hi]
 split
 ·rename_i c t fr c' t' fr' e1 e2
  rw [e1] at e2
  cases e2
  exact ⟨rfl, rfl, rfl, fun _ _ => rfl⟩
 ·rename_i e1 e2
  rw [e1] at e2
  cases e2
  exact .inr ⟨rfl, rfl⟩
 ·rfl
theorem le_same {W W' : World} {G' : Gh} (h : Le G0 W G' W') {p : MemPlace} (hp : p.block < W.heap.size) : W.sameAt W' p := by
 cases p with
 | cell b off => exact World.cell?_of_block (w := W) (a := ⟨b, off, none⟩) (le_old h b hp)
 | map b => exact le_old h b hp
theorem trodAll_stays {H : Type} {enc : TypeId × Value → H} {W W' : World} {T : TypeId → Prop} {sp' : Nat → Bool} (K : Kids P T) (hsz : ∀ {t e : TypeId}, T t → P.underlying t = some (.slice e) → 0 < P.cellsOf e) :
  ∀ {ts : List TypeId} {vs : List Value} {ds : List (DataW H)} {ps : List MemPlace}, (∀ t ∈ ts, T t) → DataW.TrodAll enc P W 0 (fun _ => true) true ts vs ds ps → (∀ p ∈ ps, W.sameAt W' p) → (∀ p ∈ ps, sp' p.block = true) →
  DataW.TrodAll enc P W' 0 sp' true ts vs ds ps
 | [], [], [], _, _, h, _, _ => h
 | t :: ts, v :: vs, d :: ds, _, hT, ⟨p, q, ⟨n, hn⟩, h2, e⟩, h3, h4 => by
  subst e
  exact ⟨p, q, ⟨n, DataW.trod_stays K hsz (fun h => by cases h) (hT t (by simp)) hn (fun x hx => h3 x (by simp [hx])) (fun x hx => h4 x (by simp [hx]))⟩,
   trodAll_stays K hsz (fun t ht => hT t (by simp [ht])) h2 (fun x hx => h3 x (by simp [hx])) (fun x hx => h4 x (by simp [hx])), rfl⟩
theorem law_of {f : FuncId} {fn : Func} {s : ChangeSpec} {H : Type} {enc : TypeId × Value → H} {W : World} {args : Array Value} {ds : List (DataW H)} {before : List MemPlace} {avs : List AV} {tok' : Nat → Bool} {nt' : Nat}
  (hl : laidOutB P = true) (hm : mapsRowed P = true) (hz : ((List.range P.types.size).all fun t => match P.underlying t with | some (.slice e) => decide (0 < P.cellsOf e) | _ => true) = true)
  (hpar : fn.params.all (· < P.types.size) = true) {tb : TypeId} (hres : fn.resultTypes = #[tb]) (hb : P.underlying tb = some .bool)
  (hvars : s.vars = []) (hfn : s.fn H ds = { results := [.lit (.bool true)], args := ds })
  (hW : DataW.Whole enc P fn.params.toList s.vars false W args.toList ds [] before) (hr : RVs G0 W avs args.toList) (hc : DCall P f avs (fun _ => false) 0 (B true) tok' nt') :
  Calls P f args W fun e W' => ∃ v, e = .returned v ∧ s.post enc P fn false true false false W args v W' := by
 have hcall := (hc (fun _ => none) 0).2 G0 W args.toList (relM_start W) hr
 simp only [Array.toArray_toList] at hcall
 refine hcall.mono ?_
 rintro e W' ⟨v, av, m', G', rfl, ⟨rfl, rfl⟩, _, _, hv, hle, _⟩
 cases hv with
 | d hv =>
  cases hv with
  | raw =>
   refine ⟨_, rfl, ?_⟩
   have hlt := hW.lt
   have hWW := hW
   obtain ⟨p, q, hA, hV, rfl, hfz, hnd⟩ := hW
   rw [hvars] at hV
   obtain ⟨_, rfl⟩ := trodVars_none hV
   simp only [List.append_nil] at hlt hfz hWW ⊢
   have hT : ∀ t ∈ fn.params.toList, t < P.types.size := fun t ht => by
    have := Array.all_eq_true_iff_forall_mem.1 hpar t (by simpa using ht)
    simpa using this
   have hsz : ∀ {t e : TypeId}, t < P.types.size → P.underlying t = some (.slice e) → 0 < P.cellsOf e := by
    intro t e ht hu
    have := List.all_eq_true.1 hz t (List.mem_range.2 ht)
    rw [hu] at this
    simpa using this
   have hargs : ∀ sp : Nat → Bool, (∀ x ∈ p, sp x.block = true) → DataW.TrodAll enc P W' 0 sp true fn.params.toList args.toList ds p := fun sp hsp =>
    trodAll_stays (kids_rows hl hm) hsz hT hA (fun x hx => le_same hle (hlt x hx)) hsp
   have hnat : (Value.bool true).resultList fn.resultTypes.size = [.bool true] := by rw [hres]; rfl
   have hresb : ∀ (b : Nat) (sp : Nat → Bool) (hd : Bool), DataW.TrodAll enc P W' b sp hd fn.resultTypes.toList ((Value.bool true).resultList fn.resultTypes.size) [.lit (.bool true)] [] := fun b sp hd => by
    rw [hnat, hres]
    exact trodAll_mk1 ⟨1, by simp [DataW.trod, hb, Value.cells]⟩
   have hfn' : s.fn H (ds ++ []) = { results := [.lit (.bool true)], args := ds } := by rw [List.append_nil]; exact hfn
   refine ⟨ds, [], p, [], p, [], hWW, ?_, ?_, ?_, World.keptBut_mono (fun _ f => f.elim) (le_kept hle fun _ => False), fun h => by cases h⟩
   ·rw [hfn']; exact hresb _ _ _
   ·rw [hfn']; exact hargs _ fun x hx => by simpa using hlt x hx
   ·rw [hfn', hvars]; exact rfl
end Go.AM
namespace Go.AM
open Go Go.Proofs
theorem own0 : ownKnob Tryz.prog.godebug = none := by kernel_rfl
theorem laidOut0 : laidOutB Tryz.prog = true := by kernel_rfl
theorem mapsRowed0 : mapsRowed Tryz.prog = true := by kernel_rfl
theorem slices0 : ((List.range Tryz.prog.types.size).all fun t => match Tryz.prog.underlying t with | some (.slice e) => decide (0 < Tryz.prog.cellsOf e) | _ => true) = true := by kernel_rfl
end Go.AM
namespace Go.AM
open Go Go.Proofs Go.ChangeShapes
structure RdF (P : Program) (T : TypeId) {α : Type} (en : α → List D) (ok : α → Prop) (n : Nat) : Prop where
 sound : ∀ {H : Type} (e : TypeId × Value → H) (w : World) (base : Nat) (spare : Nat → Bool) (held : Bool) (cs : List Value) (x : DataW H × List MemPlace),
  DataW.trod e P w base spare held n T cs = some x → ∃ y, Rd w cs (en y) ∧ (Light P T x.1 → ok y)
theorem Rdr.f {P : Program} {T : TypeId} {α : Type} (r : Rdr P T α) (n : Nat) : RdF P T r.enc r.ok n := ⟨fun e w base spare held cs x hx => r.sound e w base spare held n cs x hx⟩
theorem RdF.zero {P : Program} {T : TypeId} {α : Type} {en : α → List D} {ok : α → Prop} : RdF P T en ok 0 := ⟨fun e w base spare held cs x hx => by simp [DataW.trod] at hx⟩
theorem RdF.slice {P : Program} {T E : TypeId} {α : Type} {en : α → List D} {ok : α → Prop} {n : Nat} (r : RdF P E en ok n) (k : Nat) (hk : P.cellsOf E = k) (hlen : ∀ x, (en x).length = k) (h : P.underlying T = some (.slice E)) :
  RdF P T (fun l : List α => [.sl k (l.map en)]) (fun l => (∀ x ∈ l, ok x) ∧ l.length * P.bytesOf E ≤ reachBytes) (n + 1) := by
 subst hk
 constructor
 intro H e w base spare held cs x hx
 rcases DataW.trod_slice h hx with ⟨rfl, rfl⟩ | ⟨a, len, cap, elems, rest, n', hn', rfl, rfl, hb, hl, hm, hel, hat, _⟩
 ·exact ⟨[], Rd.one (.sl (es := []) (fun _ _ => default) (Nat.le_refl _) (by decide) (by simp) (by simp) (by simp) (by simp)), fun _ => ⟨by simp, by simp⟩⟩
 ·obtain rfl : n' = n := by omega
  have key : ∀ i (hi : i < elems.length), ∃ cs y, cs.length = P.cellsOf E ∧ (∀ j (hj : j < cs.length), w.cell? (a.add (i * P.cellsOf E + j)) = some cs[j]) ∧ Rd w cs (en y) ∧ (Light P E elems[i].1 → ok y) := by
   intro i hi
   have h1 := hat i (by omega)
   have h2 : elems[i]? = some elems[i] := List.getElem?_eq_getElem hi
   rw [h2, Option.bind_eq_some_iff] at h1
   obtain ⟨cs, hcs, htr⟩ := h1
   obtain ⟨hcl, hcc⟩ := cells_spec hcs
   obtain ⟨y, hy, hok⟩ := r.sound e w base spare held cs _ htr
   refine ⟨cs, y, hcl, fun j hj => ?_, hy, hok⟩
   rw [← Addr.add_add]
   exact hcc j hj
  have pick : ∀ m, m ≤ elems.length → ∃ ys : List α, ys.length = m ∧ (∀ i (hi : i < ys.length) (hi2 : i < elems.length), ∃ cs, cs.length = P.cellsOf E ∧ (∀ j (hj : j < cs.length), w.cell? (a.add (i * P.cellsOf E + j)) = some cs[j]) ∧ Rd w cs (en ys[i]) ∧ (Light P E elems[i].1 → ok ys[i])) := by
   intro m
   induction m with
   | zero => intro _; exact ⟨[], rfl, fun i hi => by simp at hi⟩
   | succ m ih =>
    intro hm'
    obtain ⟨ys, hys, hall⟩ := ih (by omega)
    obtain ⟨cs, y, g1, g2, g3, g4⟩ := key m (by omega)
    refine ⟨ys ++ [y], by simp [hys], fun i hi hi2 => ?_⟩
    by_cases him : i < ys.length
    ·rw [List.getElem_append_left him]
     exact hall i him hi2
    ·have : i = m := by simp at hi; omega
     subst this
     have e1 : (ys ++ [y])[i] = y := by
      rw [List.getElem_append_right (by omega)]
      simp
     rw [e1]
     exact ⟨cs, g1, g2, g3, g4⟩
  obtain ⟨ys, hys, hall⟩ := pick elems.length (Nat.le_refl _)
  refine ⟨ys, Rd.one ?_, fun hli => ?_⟩
  ·have hlen' : len = ys.length := by omega
   subst hlen'
   have hml : ys.length = (ys.map en).length := by simp
   rw [hml]
   refine .sl (fun i j => (w.cell? (a.add (i * P.cellsOf E + j))).getD default) (by simpa using hl) hm (fun e he => ?_) (fun _ => ⟨a, rfl⟩) (fun a' ha' i j hi hj => ?_) (fun i j hi hj => ?_)
   ·obtain ⟨y, _, rfl⟩ := List.mem_map.1 he
    exact hlen y
   ·cases ha'
    obtain ⟨cs, g1, g2, _⟩ := hall i (by simpa using hi) (by simp at hi; omega)
    rw [g2 j (by omega)]
    exact ⟨trivial, rfl⟩
   ·obtain ⟨cs, g1, g2, g3, _⟩ := hall i (by simpa using hi) (by simp at hi; omega)
    simp only [List.getElem_map] at hj ⊢
    have hjc : j < cs.length := by rw [g3.1]; exact hj
    rw [g2 j hjc]
    exact g3.2 j hjc hj
  ·obtain ⟨w1, w2⟩ := light_slice h hli
   refine ⟨fun y hy => ?_, by simpa [hys] using w1⟩
   obtain ⟨i, hi, rfl⟩ := List.getElem_of_mem hy
   obtain ⟨_, _, _, _, h4⟩ := hall i hi (by omega)
   exact h4 (w2 _ (List.mem_map.2 ⟨_, List.getElem_mem _, rfl⟩))
structure Gr.Big (g : Gr) : Prop where
 n : g.nodes.length ≤ bigN
 e : g.edges.length ≤ bigN
end Go.AM
namespace Go.AM
open Go Go.Proofs Go.ChangeShapes
def Rdr.str {P : Program} {T : TypeId} (h : P.underlying T = some .string) (hc : P.cellsOf T = 1) : Rdr P T ByteArray where
 enc n := [.raw (.string n)]
 ok n := n.size ≤ maxLen
 len _ := by simp [hc]
 sound e w base spare held fuel cs x hx := by
  cases fuel with
  | zero => simp [DataW.trod] at hx
  | succ n =>
   unfold DataW.trod at hx
   rw [h] at hx
   split at hx <;> simp_all
   exact ⟨_, Rd.one (.raw rfl), fun _ => hx.1⟩
def Rdr.bool {P : Program} {T : TypeId} (h : P.underlying T = some .bool) (hc : P.cellsOf T = 1) : Rdr P T Bool where
 enc n := [.raw (.bool n)]
 ok n := True
 len _ := by simp [hc]
 sound e w base spare held fuel cs x hx := by
  cases fuel with
  | zero => simp [DataW.trod] at hx
  | succ n =>
   unfold DataW.trod at hx
   rw [h] at hx
   split at hx <;> first | (simp_all; done) | skip
   exact ⟨_, Rd.one (.raw rfl), fun _ => trivial⟩
end Go.AM
namespace Go.AM
open Go Go.Proofs Go.ChangeShapes
end Go.AM
namespace Go.AM
open Go Go.Proofs Go.ChangeShapes
structure At.Big (a : At) : Prop where
 n : a.name.size ≤ maxLen
 l : a.names.length ≤ bigN
 s : ∀ x ∈ a.names, x.size ≤ maxLen
structure NT.Big (x : NT) : Prop where
 n : x.name.size ≤ maxLen
 l : x.own.length ≤ bigN
 a : ∀ y ∈ x.own, y.Big
structure Ty.Big (t : Ty) : Prop where
 n : t.nodes.length ≤ bigN
 e : t.edges.length ≤ bigN
 nn : ∀ x ∈ t.nodes, x.Big
 en : ∀ x ∈ t.edges, x.name.size ≤ maxLen
theorem allP_iff {α : Type} {p : α → Bool} {l : List α} : allP p l = true ↔ ∀ x ∈ l, p x = true := by simp [allP]
end Go.AM
namespace Go.AM
open Go Go.Proofs Go.ChangeShapes
end Go.AM
namespace Go.AM
open Go Go.Proofs
def dngAt (g : Gr) (es gone : List Int) (i : Nat) : Int :=
 if (i : Int) ∈ es then 0 else if (g.edges.getD i default).fr ∈ gone then 1 else if (g.edges.getD i default).to ∈ gone then 1 else 0
def dngB (g : Gr) (es gone : List Int) : Bool := firstE (dngAt g es gone) g.edges.length != 0
theorem dngAt_eq {g : Gr} {es gone : List Int} {i : Nat} (h : i < g.edges.length) : dngAt g es gone i = if (i : Int) ∈ es then 0 else if g.edges[i].fr ∈ gone then 1 else if g.edges[i].to ∈ gone then 1 else 0 := by simp [dngAt, h]
def stTh (l by' : List Int) (nb : Nat) (box : Bxs) (x : Acc) : AState := ⟨tl [(11, I x.i), (10, I l.length), (9, .d (ints l)), (1, .d (ints by')), (5, .osl 1 (rI (byK l by' x.i)) x.own)], lb nb box [], x.tok, x.nt⟩
theorem throughP_c (l by' : List Int) (h2 : l.length ≤ 1000000) (hr : ∀ x ∈ l, 0 ≤ x ∧ x < by'.length) (tok : Tks) (nt : Nat) : DCall Tryz.prog 130 [.d (ints l), .d (ints by')] tok nt (.d (ints (byK l by' l.length))) tok nt := by
 intro box nb
 refine sB Tryz.func130 Tryz.ntmps130 ?_
 intro hbox htok
 simp only at hbox htok
 apply AL.start
 try (simp)
 repeat (refine sR ?_; simp)
 refine sN ?_
 refine AL.loopT (stTh l by' nb box) (fun x => x.i ≤ l.length ∧ TK tok nt x.tok x.nt [x.own]) (fun x => l.length - x.i) ⟨0, .full, tok, nt⟩ ⟨Nat.zero_le _, (TK.start htok).full⟩ (Weaks.mk (Nat.le_refl _) rfl (by simp [ToL, lk, byK]) trivial) ?_
 rintro ⟨i, own, tok', nt'⟩ S ⟨hi, htk⟩ hS
 simp only [stTh] at hS hi htk
 subst hS
 have hw := sW (i := i) (by omega)
 try (simp)
 repeat (refine sR ?_; simp)
 refine sC ?_
 simp
 refine ⟨fun hlt => ?_, fun hge => ?_⟩
 ·have hx := hr _ (List.getElem_mem hlt)
  obtain ⟨a, ha⟩ := Int.eq_ofNat_of_zero_le hx.1
  have hal : a < by'.length := by omega
  have hst : byK l by' (i + 1) = byK l by' i ++ [by'[a]] := by
   rw [byK, List.take_succ_eq_append_getElem hlt, List.map_append, byK]
   simp [ha, hal]
  have hlen : (byK l by' i).length ≤ i := by simp [byK]; omega
  generalize hK : byK l by' (i + 1) = K2 at *
  generalize byK l by' i = K at *
  try (simp [hlt, ha, hal])
  repeat (refine sR ?_; simp [hlt, ha, hal])
  refine ⟨⟨by omega, htk.live⟩, ?_⟩
  try (simp [hw])
  repeat (refine sR ?_; simp [hw])
  refine sE ?_
  refine ⟨⟨i + 1, _, _, _⟩, ⟨hlt, htk.app⟩, by simp only; omega, ?_⟩
  simp only [stTh, hK, hst]
  exact Weaks.mk htk.app.le rfl (by simp [ToL, lk, rI]) trivial
 ·refine sX ?_
  simp only [AU, ↓reduceIte]
  have : i = l.length := by omega
  subst this
  try (simp)
  repeat (refine sR ?_; simp)
  refine sT ?_
  try simp only [AU]
  refine ⟨by simp, sF hbox htok htk.old htk.le ?_⟩
  simp [packA, ints]
def stDg (g : Gr) (es gone : List Int) (nb : Nat) (box : Bxs) (tok : Tks) (nt : Nat) (i : Nat) : AState :=
 ⟨tl [(12, I i), (11, I g.edges.length), (10, .d (AM.edges g.edges)), (1, .d (ints es)), (2, .d (ints gone))], lb nb box [], tok, nt⟩
theorem dangles_c (g : Gr) (hg : g.Fit) (es gone : List Int) (h1 : es.length ≤ 1000000) (h2 : gone.length ≤ 1000000) (tok : Tks) (nt : Nat) : DCall Tryz.prog 131 [g.av, .d (ints es), .d (ints gone)] tok nt (B (dngB g es gone)) tok nt := by
 intro box nb
 have hge := hg.e
 obtain ⟨N, hN⟩ : ∃ N, dngB g es gone = N := ⟨_, rfl⟩
 rw [hN]
 unfold dngB at hN
 refine sB Tryz.func131 Tryz.ntmps131 ?_
 intro hbox htok
 simp only at hbox htok
 apply AL.start
 try (simp)
 repeat (refine sR ?_; simp)
 refine sN ?_
 refine AL.loopT (stDg g es gone nb box tok nt) (fun i => i ≤ g.edges.length ∧ firstE (dngAt g es gone) i = 0) (fun i => g.edges.length - i) 0 ⟨Nat.zero_le _, rfl⟩ (Weaks.mk (Nat.le_refl _) rfl (by simp [ToL, lk]) trivial) ?_
 rintro i S ⟨hi, hok⟩ hS
 simp only [stDg] at hS
 subst hS
 have hw := sW (i := i) (by omega)
 try (simp)
 repeat (refine sR ?_; simp)
 refine sC ?_
 simp
 refine ⟨fun hlt => ?_, fun hge => ?_⟩
 ·have hd := dngAt_eq (es := es) (gone := gone) hlt
  have hR : dngAt g es gone i = 1 → N = true := fun h => by rw [← hN, firstE_stop hok (by rw [h]; decide) _ hlt, h]; rfl
  have hnx : dngAt g es gone i = 0 → firstE (dngAt g es gone) (i + 1) = 0 := fun h0 => by simp only [firstE, hok, h0, ↓reduceIte]
  have q1 := contains_c es i h1
  have q2 := contains_c gone g.edges[i].fr h2
  have q3 := contains_c gone g.edges[i].to h2
  by_cases m1 : (i : Int) ∈ es
  ·rw [if_pos m1] at hd
   simp only [m1, decide_true] at q1
   try (simp [hlt])
   repeat (refine sR ?_; simp [hlt])
   refine Stop.of_d (q1 _ _) ?_
   simp
   try (simp)
   repeat (refine sR ?_; simp)
   refine sC ?_
   simp
   try (simp [hw])
   repeat (refine sR ?_; simp [hw])
   refine sE ?_
   exact ⟨i + 1, ⟨hlt, hnx hd⟩, by omega, Weaks.mk (Nat.le_refl _) rfl (by simp [ToL, lk]) trivial⟩
  ·rw [if_neg m1] at hd
   simp only [m1, decide_false] at q1
   by_cases m2 : g.edges[i].fr ∈ gone
   ·rw [if_pos m2] at hd
    simp only [m2, decide_true] at q2
    try (simp [hlt])
    repeat (refine sR ?_; simp [hlt])
    refine Stop.of_d (q1 _ _) ?_
    simp
    try (simp [hlt])
    repeat (refine sR ?_; simp [hlt])
    refine Stop.of_d (q2 _ _) ?_
    simp
    try (simp)
    repeat (refine sR ?_; simp)
    refine sC ?_
    simp
    try (simp)
    repeat (refine sR ?_; simp)
    refine sT ?_
    try simp only [AU]
    refine ⟨by simp, sF hbox htok (fun _ h => h) (Nat.le_refl _) ?_⟩
    simp [packA, hR hd]
   ·rw [if_neg m2] at hd
    simp only [m2, decide_false] at q2
    by_cases m3 : g.edges[i].to ∈ gone
    ·rw [if_pos m3] at hd
     simp only [m3, decide_true] at q3
     try (simp [hlt])
     repeat (refine sR ?_; simp [hlt])
     refine Stop.of_d (q1 _ _) ?_
     simp
     try (simp [hlt])
     repeat (refine sR ?_; simp [hlt])
     refine Stop.of_d (q2 _ _) ?_
     simp
     try (simp [hlt])
     repeat (refine sR ?_; simp [hlt])
     refine Stop.of_d (q3 _ _) ?_
     simp
     try (simp)
     repeat (refine sR ?_; simp)
     refine sC ?_
     simp
     try (simp)
     repeat (refine sR ?_; simp)
     refine sT ?_
     try simp only [AU]
     refine ⟨by simp, sF hbox htok (fun _ h => h) (Nat.le_refl _) ?_⟩
     simp [packA, hR hd]
    ·rw [if_neg m3] at hd
     simp only [m3, decide_false] at q3
     try (simp [hlt])
     repeat (refine sR ?_; simp [hlt])
     refine Stop.of_d (q1 _ _) ?_
     simp
     try (simp [hlt])
     repeat (refine sR ?_; simp [hlt])
     refine Stop.of_d (q2 _ _) ?_
     simp
     try (simp [hlt])
     repeat (refine sR ?_; simp [hlt])
     refine Stop.of_d (q3 _ _) ?_
     simp
     try (simp)
     repeat (refine sR ?_; simp)
     refine sC ?_
     simp
     try (simp [hw])
     repeat (refine sR ?_; simp [hw])
     refine sE ?_
     exact ⟨i + 1, ⟨hlt, hnx hd⟩, by omega, Weaks.mk (Nat.le_refl _) rfl (by simp [ToL, lk]) trivial⟩
 ·refine sX ?_
  simp only [AU, ↓reduceIte]
  have : i = g.edges.length := by omega
  subst this
  rw [hok] at hN
  try (simp)
  repeat (refine sR ?_; simp)
  refine sT ?_
  try simp only [AU]
  refine ⟨by simp, sF hbox htok (fun _ h => h) (Nat.le_refl _) ?_⟩
  simp [packA, ← hN]
end Go.AM
namespace Go.AM
open Go Go.Proofs
abbrev yesC : Cd := cdOf 1 []
def hd1 (c : Cd) : Int := (c.kids.getD 0 (cdOf 0 [])).kind
def isNoB (c : Cd) : Bool := if c.kind = 2 then (hd1 c == 1) else false
def isYesB (c : Cd) : Bool := c.kind == 1
theorem isNo_c (c : Cd) (h : c.kind = 2 → 0 < c.kids.length) (tok : Tks) (nt : Nat) : DCall Tryz.prog 194 [c.av] tok nt (B (isNoB c)) tok nt := by
 intro box nb
 by_cases k2 : c.kind = 2
 ·have hl := h k2
  have hb : isNoB c = (c.kids[0].kind == 1) := by simp [isNoB, k2, hd1, hl]
  rw [hb]
  refine sB Tryz.func194 Tryz.ntmps194 ?_
  intro hbox htok
  simp only at hbox htok
  apply AL.start
  try (simp [k2, hl, Cd.cells_eq])
  repeat (refine sR ?_; simp [k2, hl, Cd.cells_eq])
  refine sT ?_
  try simp only [AU]
  refine ⟨by simp, sF hbox htok (fun _ h => h) (Nat.le_refl _) ?_⟩
  simp [packA]
 ·have hb : isNoB c = false := by simp [isNoB, k2]
  have k2' : (c.kind == 2) = false := by simp [k2]
  rw [hb]
  refine sB Tryz.func194 Tryz.ntmps194 ?_
  intro hbox htok
  simp only at hbox htok
  apply AL.start
  try (simp [k2'])
  repeat (refine sR ?_; simp [k2'])
  refine sT ?_
  try simp only [AU]
  refine ⟨by simp, sF hbox htok (fun _ h => h) (Nat.le_refl _) ?_⟩
  simp [packA]
theorem red1_c (c : Cd) (tok : Tks) (nt : Nat) : DCall Tryz.prog 196 [c.av] tok nt (B (isYesB c)) tok nt := by
 intro box nb
 refine sB Tryz.func196 Tryz.ntmps196 ?_
 intro hbox htok
 simp only at hbox htok
 apply AL.start
 try (simp)
 repeat (refine sR ?_; simp)
 refine sT ?_
 try simp only [AU]
 refine ⟨by simp, sF hbox htok (fun _ h => h) (Nat.le_refl _) ?_⟩
 simp [packA, isYesB]
theorem red2_c (c : Cd) (tok : Tks) (nt : Nat) : DCall Tryz.prog 197 [c.av] tok nt (B (isYesB c)) tok nt := by
 intro box nb
 refine sB Tryz.func197 Tryz.ntmps197 ?_
 intro hbox htok
 simp only at hbox htok
 apply AL.start
 try (simp)
 repeat (refine sR ?_; simp)
 refine sT ?_
 try simp only [AU]
 refine ⟨by simp, sF hbox htok (fun _ h => h) (Nat.le_refl _) ?_⟩
 simp [packA, isYesB]
def lstR (k : Int) (e : Cd) (K : List Cd) : Cd := if K.length = 0 then e else if K.length = 1 then K.getD 0 e else cdOf k K
def listS (c e w : Cd) (neu abs : Cd → Bool) : Cd := if anyB abs c.kids = true then w else lstR c.kind e (c.kids.filter fun x => !neu x)
def filK (neu : Cd → Bool) (l : List Cd) (i : Nat) : List Cd := (l.take i).filter fun x => !neu x
theorem filK_succ {neu : Cd → Bool} {l : List Cd} {i : Nat} (h : i < l.length) : filK neu l (i + 1) = if neu l[i] = true then filK neu l i else filK neu l i ++ [l[i]] := by
 rw [filK, List.take_succ_eq_append_getElem h, List.filter_append, filK]
 cases e : neu l[i] <;> simp [e]
theorem filK_len (neu : Cd → Bool) (l : List Cd) (i : Nat) : (filK neu l i).length ≤ i := Nat.le_trans (List.length_filter_le _ _) (by rw [List.length_take]; omega)
abbrev zRow : List AV := [z0i, nilS, nilS, nilS, nilS, nilS, nilS, z0i, nilS]
def stLs (c e w : Cd) (neu : Cd → Bool) (fn fa : FuncId) (nb : Nat) (box : Bxs) (i : Nat) (K : List Cd) (x : Acc) : AState :=
 ⟨tl [(17, I i), (16, I c.kids.length), (15, .d (conds c.kids)), (11, .osl 9 (K.map Cd.cells) x.own), (10, .ptr (nb + 10) 0 0), (7, .ptr (nb + 7) 0 0), (6, .ptr (nb + 6) 0 0), (5, .ptr (nb + 5) 0 0), (3, .fn (.func fn) []), (4, .fn (.func fa) [])], lb nb box [(7, [w.row]), (6, [e.row]), (5, [c.row]), (10, [zRow])], x.tok, x.nt⟩
theorem fn_to {p q : Nat → Prop} {f : FuncId} : To p q none (.fn (.func f) []) (.fn (.func f) []) := .same (.fn (by simp))
theorem lst34_c (c e w : Cd) (hc : c.Fit) (neu abs : Cd → Bool) (fn fa : FuncId) (hn : ∀ x ∈ c.kids, ∀ tok nt, DCall Tryz.prog fn [x.av] tok nt (B (neu x)) tok nt) (ha : ∀ x ∈ c.kids, ∀ tok nt, DCall Tryz.prog fa [x.av] tok nt (B (abs x)) tok nt) (tok : Tks) (nt : Nat) :
  DCall Tryz.prog 195 [c.av, e.av, w.av, .fn (.func fn) [], .fn (.func fa) []] tok nt (listS c e w neu abs).av tok nt := by
 intro box nb
 have hkl := hc.kids
 obtain ⟨N, hN⟩ : ∃ N, listS c e w neu abs = N := ⟨_, rfl⟩
 rw [hN]
 unfold listS at hN
 refine sB Tryz.func195 Tryz.ntmps195 ?_
 intro hbox htok
 simp only at hbox htok
 apply AL.start
 try (simp)
 repeat (refine sR ?_; simp)
 refine sN ?_
 have hkl2 := hkl
 rw [kidN_eq] at hkl2
 refine AL.loopT (fun x => stLs c e w neu fn fa nb box x.i (filK neu c.kids x.i) x) (fun x => x.i ≤ c.kids.length ∧ allP (fun y => !abs y) (c.kids.take x.i) = true ∧ TK tok nt x.tok x.nt [x.own]) (fun x => c.kids.length - x.i) ⟨0, .full, tok, nt⟩ ⟨Nat.zero_le _, rfl, (TK.start htok).full⟩ (Weaks.mk (Nat.le_refl _) rfl (by simp [ToL, lk, lb_at, filK, fn_to]) (by simp [BoxL, lk])) ?_
 rintro ⟨i, own, tok', nt'⟩ S ⟨hi, hall, htk⟩ hS
 simp only [stLs] at hS hi htk hall
 subst hS
 have hw := sW (i := i) (by omega)
 have hKl := filK_len neu c.kids i
 try (simp)
 repeat (refine sR ?_; simp)
 refine sC ?_
 simp
 refine ⟨fun hlt => ?_, fun hge => ?_⟩
 ·have hmem := List.getElem_mem hlt
  have q1 := ha _ hmem
  have q2 := hn _ hmem
  have hst := filK_succ (neu := neu) hlt
  have hmore := fun h => all_more (p := fun y => !abs y) hlt hall h
  generalize hK2 : filK neu c.kids (i + 1) = K2 at *
  generalize filK neu c.kids i = K at *
  try (simp [hlt, Cd.cells_eq])
  repeat (refine sR ?_; simp [hlt, Cd.cells_eq])
  refine Stop.of_d (q1 _ _) ?_
  simp
  cases e1 : abs c.kids[i]
  ·try (simp)
   repeat (refine sR ?_; simp)
   refine sC ?_
   simp
   try (simp)
   repeat (refine sR ?_; simp)
   refine Stop.of_d (q2 _ _) ?_
   simp
   cases e2 : neu c.kids[i]
   ·rw [e2, if_neg (by simp)] at hst
    try (simp)
    repeat (refine sR ?_; simp)
    refine sC ?_
    simp
    try (simp)
    repeat (refine sR ?_; simp)
    refine ⟨⟨by omega, htk.live⟩, ?_⟩
    try (simp [hw])
    repeat (refine sR ?_; simp [hw])
    refine sE ?_
    refine ⟨⟨i + 1, _, _, _⟩, ⟨hlt, hmore (by simp only [e1]; rfl), htk.app⟩, by simp only; omega, ?_⟩
    simp only [hK2, hst]
    exact Weaks.mk htk.app.le rfl (by simp [ToL, lk, lb_at, fn_to, Cd.cells_eq]) (by simp [BoxL, lk])
   ·rw [e2, if_pos rfl] at hst
    try (simp)
    repeat (refine sR ?_; simp)
    refine sC ?_
    simp
    try (simp [hw])
    repeat (refine sR ?_; simp [hw])
    refine sE ?_
    refine ⟨⟨i + 1, own, tok', nt'⟩, ⟨hlt, hmore (by simp only [e1]; rfl), htk⟩, by simp only; omega, ?_⟩
    simp only [hK2, hst]
    exact Weaks.mk htk.le rfl (by simp [ToL, lk, lb_at, fn_to]) (by simp [BoxL, lk])
  ·have : anyB abs c.kids = true := List.any_eq_true.2 ⟨_, hmem, e1⟩
   rw [if_pos this] at hN
   try (simp)
   repeat (refine sR ?_; simp)
   refine sC ?_
   simp
   try (simp)
   repeat (refine sR ?_; simp)
   refine sT ?_
   try simp only [AU]
   refine ⟨by simp, sF hbox htok htk.old htk.le ?_⟩
   simp [packA, ← hN]
 ·refine sX ?_
  simp only [AU, ↓reduceIte]
  have hil : i = c.kids.length := by omega
  have hany : anyB abs c.kids = false := by
   rw [List.take_of_length_le hge, allP_iff] at hall
   rw [← Bool.not_eq_true, anyB, List.any_eq_true]
   rintro ⟨x, hx, h⟩
   have := hall x hx
   rw [h] at this
   cases this
  have hf : (c.kids.filter fun x => !neu x) = filK neu c.kids i := by rw [filK, List.take_of_length_le hge]
  rw [hany, if_neg (by simp), hf] at hN
  generalize filK neu c.kids i = K at *
  unfold lstR at hN
  by_cases k0 : K.length = 0
  ·have k0' : K = [] := List.length_eq_zero_iff.1 k0
   rw [if_pos k0] at hN
   try (simp [k0'])
   repeat (refine sR ?_; simp [k0'])
   refine sC ?_
   simp [k0']
   try (simp)
   repeat (refine sR ?_; simp)
   refine sT ?_
   try simp only [AU]
   refine ⟨by simp, sF hbox htok htk.old htk.le ?_⟩
   simp [packA, ← hN]
  ·have k0' : ¬ K = [] := fun h => k0 (by rw [h]; rfl)
   have k0i : ((K.length : Int) == 0) = false := by simp [k0']
   rw [if_neg k0] at hN
   by_cases k1 : K.length = 1
   ·have hl0 : 0 < K.length := by omega
    rw [if_pos k1, show K.getD 0 e = K[0] by simp [hl0]] at hN
    try (simp [k0i])
    repeat (refine sR ?_; simp [k0i])
    refine sC ?_
    simp [k0i]
    try (simp [k1])
    repeat (refine sR ?_; simp [k1])
    refine sC ?_
    simp [k1]
    try (simp [hl0, Cd.cells_eq])
    repeat (refine sR ?_; simp [hl0, Cd.cells_eq])
    refine sT ?_
    try simp only [AU]
    refine ⟨by simp, sF hbox htok htk.old htk.le ?_⟩
    simp [packA, ← hN]
   ·have k1i : ((K.length : Int) == 1) = false := by simp; omega
    rw [if_neg k1] at hN
    try (simp [k0i])
    repeat (refine sR ?_; simp [k0i])
    refine sC ?_
    simp [k0i]
    try (simp [k1i])
    repeat (refine sR ?_; simp [k1i])
    refine sC ?_
    simp [k1i]
    try (simp)
    repeat (refine sR ?_; simp)
    refine sT ?_
    try simp only [AU]
    refine ⟨by simp, sF hbox htok htk.old htk.le ?_⟩
    simp [packA, ← hN, cdOf, Cd.kind, Cd.kids, Cd.m, Cd.g, Cd.sl, Cd.vars, Cd.te, conds, ints, AM.edges, slots, tests]
end Go.AM
namespace Go.AM
open Go Go.Proofs
def redS (c : Cd) : Cd :=
 if c.kind = 2 then (if isNoB (c.kids.getD 0 (cdOf 0 [])) = true then yesC else c)
 else if c.kind = 3 then listS c yesC noC isYesB isNoB
 else if c.kind = 4 then listS c noC yesC isNoB isYesB
 else if c.kind = 5 then (if isNoB (c.kids.getD 0 (cdOf 0 [])) = true then noC else c)
 else c
theorem reduced_c (c : Cd) (hc : c.Fit) (h1 : c.kind = 2 ∨ c.kind = 5 → 0 < c.kids.length) (h2 : ∀ x ∈ c.kids, x.kind = 2 → 0 < x.kids.length) (tok : Tks) (nt : Nat) : DCall Tryz.prog 133 [c.av] tok nt (redS c).av tok nt := by
 intro box nb
 have hno := fun x hx => isNo_c x (h2 x hx)
 have l3 := lst34_c c yesC noC hc isYesB isNoB 196 194 (fun x hx tok nt => red1_c x tok nt) (fun x hx tok nt => hno x hx tok nt)
 have l4 := lst34_c c noC yesC hc isNoB isYesB 194 197 (fun x hx tok nt => hno x hx tok nt) (fun x hx tok nt => red2_c x tok nt)
 obtain ⟨N, hN⟩ : ∃ N, redS c = N := ⟨_, rfl⟩
 rw [hN]
 unfold redS at hN
 by_cases k2 : c.kind = 2
 ·have hl := h1 (.inl k2)
  have q := hno c.kids[0] (List.getElem_mem hl)
  rw [if_pos k2, show c.kids.getD 0 (cdOf 0 []) = c.kids[0] by simp [hl]] at hN
  refine sB Tryz.func133 Tryz.ntmps133 ?_
  intro hbox htok
  simp only at hbox htok
  apply AL.start
  try (simp [k2])
  repeat (refine sR ?_; simp [k2])
  refine sC ?_
  simp [k2]
  try (simp [hl, Cd.cells_eq])
  repeat (refine sR ?_; simp [hl, Cd.cells_eq])
  refine Stop.of_d (q _ _) ?_
  simp
  cases e : isNoB c.kids[0]
  ·rw [e, if_neg (by simp)] at hN
   try (simp)
   repeat (refine sR ?_; simp)
   refine sC ?_
   simp
   try (simp)
   repeat (refine sR ?_; simp)
   refine sT ?_
   try simp only [AU]
   refine ⟨by simp, sF hbox htok (fun _ h => h) (Nat.le_refl _) ?_⟩
   simp [packA, ← hN]
  ·rw [e, if_pos rfl] at hN
   try (simp)
   repeat (refine sR ?_; simp)
   refine sC ?_
   simp
   try (simp)
   repeat (refine sR ?_; simp)
   refine Stop.of_d (yes_c _ _) ?_
   simp
   refine sT ?_
   try simp only [AU]
   refine ⟨by simp, sF hbox htok (fun _ h => h) (Nat.le_refl _) ?_⟩
   simp [packA, ← hN]
 ·rw [if_neg k2] at hN
  have b2 : (c.kind == 2) = false := by simp [k2]
  by_cases k3 : c.kind = 3
  ·rw [if_pos k3] at hN
   rw [hN] at l3
   refine sB Tryz.func133 Tryz.ntmps133 ?_
   intro hbox htok
   simp only at hbox htok
   apply AL.start
   try (simp [b2, k3])
   repeat (refine sR ?_; simp [b2, k3])
   refine sC ?_
   simp [b2]
   try (simp [k3])
   repeat (refine sR ?_; simp [k3])
   refine sC ?_
   simp [k3]
   try (simp)
   repeat (refine sR ?_; simp)
   refine Stop.of_d (yes_c _ _) ?_
   simp
   refine Stop.of_d (no_c _ _) ?_
   simp
   refine Stop.of_d (l3 _ _) ?_
   simp
   refine sT ?_
   try simp only [AU]
   refine ⟨by simp, sF hbox htok (fun _ h => h) (Nat.le_refl _) ?_⟩
   simp [packA]
  ·rw [if_neg k3] at hN
   have b3 : (c.kind == 3) = false := by simp [k3]
   by_cases k4 : c.kind = 4
   ·rw [if_pos k4] at hN
    rw [hN] at l4
    refine sB Tryz.func133 Tryz.ntmps133 ?_
    intro hbox htok
    simp only at hbox htok
    apply AL.start
    try (simp [b2, k4])
    repeat (refine sR ?_; simp [b2, k4])
    refine sC ?_
    simp [b2]
    try (simp [b3, k4])
    repeat (refine sR ?_; simp [b3, k4])
    refine sC ?_
    simp [b3]
    try (simp [k4])
    repeat (refine sR ?_; simp [k4])
    refine sC ?_
    simp [k4]
    try (simp)
    repeat (refine sR ?_; simp)
    refine Stop.of_d (no_c _ _) ?_
    simp
    refine Stop.of_d (yes_c _ _) ?_
    simp
    refine Stop.of_d (l4 _ _) ?_
    simp
    refine sT ?_
    try simp only [AU]
    refine ⟨by simp, sF hbox htok (fun _ h => h) (Nat.le_refl _) ?_⟩
    simp [packA]
   ·rw [if_neg k4] at hN
    have b4 : (c.kind == 4) = false := by simp [k4]
    by_cases k5 : c.kind = 5
    ·have hl := h1 (.inr k5)
     have q := hno c.kids[0] (List.getElem_mem hl)
     rw [if_pos k5, show c.kids.getD 0 (cdOf 0 []) = c.kids[0] by simp [hl]] at hN
     refine sB Tryz.func133 Tryz.ntmps133 ?_
     intro hbox htok
     simp only at hbox htok
     apply AL.start
     try (simp [b2, k5])
     repeat (refine sR ?_; simp [b2, k5])
     refine sC ?_
     simp [b2]
     try (simp [b3, k5])
     repeat (refine sR ?_; simp [b3, k5])
     refine sC ?_
     simp [b3]
     try (simp [b4, k5])
     repeat (refine sR ?_; simp [b4, k5])
     refine sC ?_
     simp [b4]
     try (simp [k5])
     repeat (refine sR ?_; simp [k5])
     refine sC ?_
     simp [k5]
     try (simp [hl, Cd.cells_eq])
     repeat (refine sR ?_; simp [hl, Cd.cells_eq])
     refine Stop.of_d (q _ _) ?_
     simp
     cases e : isNoB c.kids[0]
     ·rw [e, if_neg (by simp)] at hN
      try (simp)
      repeat (refine sR ?_; simp)
      refine sC ?_
      simp
      try (simp)
      repeat (refine sR ?_; simp)
      refine sT ?_
      try simp only [AU]
      refine ⟨by simp, sF hbox htok (fun _ h => h) (Nat.le_refl _) ?_⟩
      simp [packA, ← hN]
     ·rw [e, if_pos rfl] at hN
      try (simp)
      repeat (refine sR ?_; simp)
      refine sC ?_
      simp
      try (simp)
      repeat (refine sR ?_; simp)
      refine Stop.of_d (no_c _ _) ?_
      simp
      refine sT ?_
      try simp only [AU]
      refine ⟨by simp, sF hbox htok (fun _ h => h) (Nat.le_refl _) ?_⟩
      simp [packA, ← hN]
    ·rw [if_neg k5] at hN
     have b5 : (c.kind == 5) = false := by simp [k5]
     refine sB Tryz.func133 Tryz.ntmps133 ?_
     intro hbox htok
     simp only at hbox htok
     apply AL.start
     try (simp [b2])
     repeat (refine sR ?_; simp [b2])
     refine sC ?_
     simp [b2]
     try (simp [b3])
     repeat (refine sR ?_; simp [b3])
     refine sC ?_
     simp [b3]
     try (simp [b4])
     repeat (refine sR ?_; simp [b4])
     refine sC ?_
     simp [b4]
     try (simp [b5])
     repeat (refine sR ?_; simp [b5])
     refine sC ?_
     simp [b5]
     try (simp)
     repeat (refine sR ?_; simp)
     refine sT ?_
     try simp only [AU]
     refine ⟨by simp, sF hbox htok (fun _ h => h) (Nat.le_refl _) ?_⟩
     simp [packA, ← hN]
end Go.AM
namespace Go.AM
open Go Go.Proofs
def withK (c : Cd) (l : List Cd) : Cd := .mk c.kind l c.m c.g c.sl c.vars c.te
def Cd.gg (c : Cd) (gone : List Int) : List Int := if c.kind = 5 then byK gone c.m.nodes gone.length else gone
def Cd.ge (c : Cd) (es : List Int) : List Int := if c.kind = 5 then byK es c.m.edges es.length else es
def Cd.prn (c : Cd) (gone es : List Int) : Cd :=
 if c.kind = 5 ∧ dngB c.g (c.ge es) (c.gg gone) = true then noC else redS (withK c (c.kids.attach.map fun ⟨x, hx⟩ => Cd.prn x (c.gg gone) (c.ge es)))
termination_by SizeOf.sizeOf c
decreasing_by exact Cd.kid_lt hx
theorem Cd.prn_eq (c : Cd) (gone es : List Int) : c.prn gone es = if c.kind = 5 ∧ dngB c.g (c.ge es) (c.gg gone) = true then noC else redS (withK c (c.kids.map fun x => x.prn (c.gg gone) (c.ge es))) := by
 rw [Cd.prn]
 congr 2
 simp
def Cd.ctr (c : Cd) (gone es : List Int) : Cd :=
 if c.kind = 5 ∧ dngB c.g (c.ge es) (c.gg gone) = true then noC else withK c (c.kids.attach.map fun ⟨x, hx⟩ => Cd.ctr x (c.gg gone) (c.ge es))
termination_by SizeOf.sizeOf c
decreasing_by exact Cd.kid_lt hx
theorem Cd.ctr_eq (c : Cd) (gone es : List Int) : c.ctr gone es = if c.kind = 5 ∧ dngB c.g (c.ge es) (c.gg gone) = true then noC else withK c (c.kids.map fun x => x.ctr (c.gg gone) (c.ge es)) := by
 rw [Cd.ctr]
 congr 2
 simp
def Cd.wod (c : Cd) : Cd := redS (withK c (c.kids.attach.map fun ⟨x, hx⟩ => Cd.wod x))
termination_by SizeOf.sizeOf c
decreasing_by exact Cd.kid_lt hx
theorem Cd.wod_eq (c : Cd) : c.wod = redS (withK c (c.kids.map Cd.wod)) := by
 rw [Cd.wod]
 congr 2
 simp
theorem wod_yes : yesC.wod = yesC := by
 rw [Cd.wod_eq]
 rfl
theorem wod_no : noC.wod = noC := by
 rw [Cd.wod_eq]
 show redS (withK noC [yesC.wod]) = noC
 rw [wod_yes]
 rfl
theorem ctr_wod : ∀ (n : Nat) (c : Cd), SizeOf.sizeOf c < n → ∀ gone es, (c.ctr gone es).wod = c.prn gone es
 | 0, c, hn, _, _ => absurd hn (Nat.not_lt_zero _)
 | n + 1, c, hn, gone, es => by
  have ih := fun x (hx : x ∈ c.kids) => ctr_wod n x (by have := Cd.kid_lt hx; omega)
  rw [c.ctr_eq, c.prn_eq]
  split
  ·exact wod_no
  ·rw [Cd.wod_eq]
   show redS (withK c ((c.kids.map fun x => x.ctr (c.gg gone) (c.ge es)).map Cd.wod)) = _
   rw [List.map_map]
   congr 2
   exact List.map_congr_left fun x hx => ih x hx _ _
theorem shape_withK {c : Cd} {l : List Cd} (h : shapeC c = 0) (hl : l.length = c.kids.length) : shapeC (withK c l) = 0 := by
 have e : shapeC (withK c l) = shapeC c := by
  unfold shapeC okC
  rw [show (withK c l).kids = l from rfl, hl]
  rfl
 rw [e]; exact h
theorem withK_ok {a : Gr} {c : Cd} {l : List Cd} (h : LftOk a c) (hl : l.length = c.kids.length) (hk : ∀ x ∈ l, LftOk (c.inn a) x) : LftOk a (withK c l) := by
 obtain ⟨h0, h1, h2⟩ := Cd.ovr_zero h.ovr
 have hf := h.fit
 have hb := h.bare
 refine ⟨Cd.ovr_of (shape_withK h0 hl) h1 fun x hx => (hk x hx).ovr, ?_, .mk hb.sl hb.te fun x hx => (hk x hx).bare⟩
 cases hf with
 | mk k1 k2 k3 k4 k5 k6 => exact .mk (by rw [show (withK c l).kids = l from rfl, hl]; exact k1) k2 k3 k4 k5 fun x hx => (hk x hx).fit
theorem LftOk.kid {a : Gr} {c : Cd} (h : LftOk a c) : ∀ x ∈ c.kids, LftOk (c.inn a) x := fun x hx => by
 obtain ⟨_, _, h2⟩ := Cd.ovr_zero h.ovr
 have hb := h.bare
 refine ⟨h2 x hx, h.fit.kid x hx, ?_⟩
 cases hb with
 | mk _ _ h3 => exact h3 x hx
theorem yesC_ok (a : Gr) : LftOk a yesC := ⟨Cd.ovr_of rfl rfl (by simp [cdOf, Cd.kids]), (nil_fb 1).1, (nil_fb 1).2⟩
theorem lstR_ok {a : Gr} {k : Int} {e : Cd} {K : List Cd} (hk : k = 3 ∨ k = 4) (he : LftOk a e) (hK : ∀ x ∈ K, LftOk a x) (hl : K.length ≤ kidN) : LftOk a (lstR k e K) := by
 unfold lstR
 split
 ·exact he
 ·rename_i h0
  split
  ·rename_i h1
   have h2 : 0 < K.length := by omega
   rw [show K.getD 0 e = K[0] by simp [h2]]
   exact hK _ (List.getElem_mem h2)
  ·have hsh : shapeC (cdOf k K) = 0 := by
    have h1 : 0 < (cdOf k K).kids.length := by show 0 < K.length; omega
    have h5 : okC (cdOf k K) = true := by
     unfold okC
     rw [show (cdOf k K).kind = k from rfl, unused_cdOf]
     rcases hk with rfl | rfl <;> simp [h1]
    rw [shapeC, if_pos h5, if_pos (plain_cdOf _ _)]
   refine ⟨Cd.ovr_of hsh (by rcases hk with rfl | rfl <;> rfl) fun x hx => ?_, cdOf_fit hl fun x hx => (hK x hx).fit, bare_cdOf fun x hx => (hK x hx).bare⟩
   have : (cdOf k K).inn a = a := by
    rw [Cd.inn, if_neg]
    show k ≠ 5
    rcases hk with rfl | rfl <;> decide
   rw [this]
   exact (hK x hx).ovr
theorem redS_ok {a : Gr} {c : Cd} (h : LftOk a c) : LftOk a (redS c) := by
 have hk := h.kid
 have hkl := h.fit.kids
 have hls : ∀ (e w : Cd) (neu abs : Cd → Bool), LftOk a e → LftOk a w → (c.kind = 3 ∨ c.kind = 4) → LftOk a (listS c e w neu abs) := fun e w neu abs he hw hkd => by
  unfold listS
  split
  ·exact hw
  ·refine lstR_ok hkd he (fun x hx => ?_) (Nat.le_trans (List.length_filter_le _ _) hkl)
   have := hk x (List.mem_filter.1 hx).1
   rw [Cd.inn, if_neg (by rcases hkd with e | e <;> rw [e] <;> decide)] at this
   exact this
 unfold redS
 split
 ·split
  ·exact yesC_ok a
  ·exact h
 ·split
  ·rename_i k3; exact hls _ _ _ _ (yesC_ok a) (noC_ok a) (.inl k3)
  ·split
   ·rename_i k4; exact hls _ _ _ _ (noC_ok a) (yesC_ok a) (.inr k4)
   ·split
    ·split
     ·exact noC_ok a
     ·exact h
    ·exact h
theorem prn_ok : ∀ (n : Nat) (c : Cd), SizeOf.sizeOf c < n → ∀ a, LftOk a c → ∀ gone es, LftOk a (c.prn gone es)
 | 0, c, hn, _, _, _, _ => absurd hn (Nat.not_lt_zero _)
 | n + 1, c, hn, a, h, gone, es => by
  have ih := fun x (hx : x ∈ c.kids) => prn_ok n x (by have := Cd.kid_lt hx; omega)
  rw [c.prn_eq]
  split
  ·exact noC_ok a
  ·refine redS_ok (withK_ok h (by simp) fun y hy => ?_)
   obtain ⟨x, hx, rfl⟩ := List.mem_map.1 hy
   exact ih x hx _ (h.kid x hx) _ _
end Go.AM
namespace Go.AM
open Go Go.Proofs
theorem shape_two {c : Cd} (h : shapeC c = 0) (h2 : c.kind = 2) : c.kids.length = 1 := by
 unfold shapeC at h
 split at h
 ·rename_i hk
  simp [okC, h2] at hk
  omega
 ·omega
abbrev cutRow (c : Cd) (K : List Cd) (own : Own) : List AV := [I c.kind, .osl 9 (K.map Cd.cells) own, .d (ints c.m.nodes), .d (ints c.m.edges), .d (ints c.g.nodes), .d (AM.edges c.g.edges), .d (slots c.sl), I c.vars, .d (tests c.te)]
def stCu (c : Cd) (G H : List Int) (nb : Nat) (box : Bxs) (i : Nat) (K : List Cd) (x : Acc) : AState :=
 ⟨tl [(35, I i), (34, I c.kids.length), (33, .d (conds c.kids)), (7, .ptr (nb + 7) 0 0), (6, .ptr (nb + 6) 0 0), (1, .d (ints G)), (2, .d (ints H))], lb nb box [(7, [cutRow c K x.own]), (6, [zRow])], x.tok, x.nt⟩
set_option maxRecDepth 100000 in
theorem cut_c : ∀ (n : Nat) (c : Cd), SizeOf.sizeOf c < n → ∀ a, LftOk a c → ∀ (gone es : List Int), gone.length ≤ 1000000 → es.length ≤ 1000000 → (∀ x ∈ gone, 0 ≤ x ∧ x < a.nodes.length) → (∀ x ∈ es, 0 ≤ x ∧ x < a.edges.length) → ∀ (tok : Tks) (nt : Nat), DCall Tryz.prog 71 [c.av, .d (ints gone), .d (ints es)] tok nt (c.prn gone es).av tok nt
 | 0, c, hn, _, _, _, _, _, _, _, _, _, _ => absurd hn (Nat.not_lt_zero _)
 | n + 1, c, hn, a, h, gone, es, hg1, he1, hg, he, tok, nt => by
  have ih := fun x (hx : x ∈ c.kids) => cut_c n x (by have := Cd.kid_lt hx; omega)
  intro box nb
  have hP := c.prn_eq gone es
  obtain ⟨N, hN⟩ : ∃ N, c.prn gone es = N := ⟨_, rfl⟩
  rw [hN] at hP ⊢
  have hkl := h.fit.kids
  rw [kidN_eq] at hkl
  have hgl : (c.gg gone).length ≤ 1000000 := by unfold Cd.gg; split <;> simp [hg1]
  have hel : (c.ge es).length ≤ 1000000 := by unfold Cd.ge; split <;> simp [he1]
  have hgb : ∀ x ∈ c.gg gone, 0 ≤ x ∧ x < (c.inn a).nodes.length := by
   unfold Cd.gg Cd.inn
   split
   ·rename_i k5
    obtain ⟨hm, _⟩ := ovr_ex h.ovr k5
    intro x hx
    simp only [byK, List.take_length, List.mem_map] at hx
    obtain ⟨y, hy, rfl⟩ := hx
    have := hg y hy
    exact hm.vm.n _ (getD_mem (by rw [hm.vm.ln]; omega))
   ·exact hg
  have heb : ∀ x ∈ c.ge es, 0 ≤ x ∧ x < (c.inn a).edges.length := by
   unfold Cd.ge Cd.inn
   split
   ·rename_i k5
    obtain ⟨hm, _⟩ := ovr_ex h.ovr k5
    intro x hx
    simp only [byK, List.take_length, List.mem_map] at hx
    obtain ⟨y, hy, rfl⟩ := hx
    have := he y hy
    exact hm.vm.e _ (getD_mem (by rw [hm.vm.le]; omega))
   ·exact he
  have ihk := fun x (hx : x ∈ c.kids) => ih x hx _ (h.kid x hx) _ _ hgl hel hgb heb
  refine sB Tryz.func71 Tryz.ntmps71 ?_
  intro hbox htok
  simp only at hbox htok
  apply AL.start
  try (simp)
  repeat (refine sR ?_; simp)
  refine AL.midP ⟨tl [(6, .ptr (nb + 6) 0 0), (3, .ptr (nb + 3) 0 0), (1, .d (ints (c.gg gone))), (2, .d (ints (c.ge es)))], lb nb box [(3, [c.row]), (6, [zRow])], tok, nt⟩ (N = redS (withK c (c.kids.map fun x => x.prn (c.gg gone) (c.ge es)))) ?_ ?_
  ·by_cases k5 : c.kind = 5
   ·obtain ⟨hm, x, hkx⟩ := ovr_ex h.ovr k5
    have hV := hm.vm
    have q1 := throughP_c gone c.m.nodes hg1 (fun x hx => by rw [hV.ln]; exact hg x hx)
    have q2 := throughP_c es c.m.edges he1 (fun x hx => by rw [hV.le]; exact he x hx)
    have eg : c.gg gone = byK gone c.m.nodes gone.length := if_pos k5
    have ee : c.ge es = byK es c.m.edges es.length := if_pos k5
    rw [← eg] at q1
    rw [← ee] at q2
    have q3 := dangles_c c.g h.fit.g (c.ge es) (c.gg gone) hel hgl
    generalize c.gg gone = G at *
    generalize c.ge es = H at *
    refine sC ?_
    simp [k5]
    try (simp)
    repeat (refine sR ?_; simp)
    refine Stop.of_d (q1 _ _) ?_
    simp
    refine Stop.of_d (q2 _ _) ?_
    simp
    try (simp)
    repeat (refine sR ?_; simp)
    refine Stop.of_d (q3 _ _) ?_
    simp
    cases e5 : dngB c.g H G
    ·rw [if_neg (by rw [e5]; simp)] at hP
     refine sC ?_
     simp
     refine sE ?_
     exact ⟨hP, Weaks.mk (Nat.le_refl _) rfl (by simp [ToL, lk, lb_at]) (by simp [BoxL, lk])⟩
    ·rw [if_pos ⟨k5, e5⟩] at hP
     refine sC ?_
     simp
     try (simp)
     repeat (refine sR ?_; simp)
     refine Stop.of_d (no_c _ _) ?_
     simp
     refine sT ?_
     try simp only [AU]
     refine ⟨by simp, sF hbox htok (fun _ h => h) (Nat.le_refl _) ?_⟩
     simp [packA, hP]
   ·have b5 : (c.kind == 5) = false := by simp [k5]
    rw [if_neg (by simp [k5])] at hP
    refine sC ?_
    simp [b5]
    refine sE ?_
    exact ⟨hP, Weaks.mk (Nat.le_refl _) rfl (by simp [ToL, lk, lb_at, Cd.gg, Cd.ge, k5]) (by simp [BoxL, lk])⟩
  ·intro hP
   generalize c.gg gone = G at *
   generalize c.ge es = H at *
   try (simp)
   repeat (refine sR ?_; simp)
   refine sN ?_
   refine AL.loopT (fun x => stCu c G H nb box x.i ((c.kids.take x.i).map fun y => y.prn G H) x) (fun x => x.i ≤ c.kids.length ∧ TK tok nt x.tok x.nt [x.own]) (fun x => c.kids.length - x.i) ⟨0, .full, tok, nt⟩ ⟨Nat.zero_le _, (TK.start htok).full⟩ (Weaks.mk (Nat.le_refl _) rfl (by simp [ToL, lk, lb_at]) (by simp [BoxL, lk])) ?_
   rintro ⟨i, own, tok', nt'⟩ S ⟨hi, htk⟩ hS
   simp only [stCu] at hS hi htk
   subst hS
   have hw := sW (i := i) (by omega)
   have hKl : ((c.kids.take i).map fun y => y.prn G H).length = i := by simp; omega
   obtain ⟨K, hK⟩ : ∃ K, ((c.kids.take i).map fun y => y.prn G H) = K := ⟨_, rfl⟩
   rw [hK] at hKl ⊢
   try (simp)
   repeat (refine sR ?_; simp)
   refine sC ?_
   simp
   refine ⟨fun hlt => ?_, fun hge => ?_⟩
   ·have ihx := ihk _ (List.getElem_mem hlt)
    have hst : ((c.kids.take (i + 1)).map fun y => y.prn G H) = K ++ [c.kids[i].prn G H] := by rw [List.take_succ_eq_append_getElem hlt, List.map_append, hK]; rfl
    have hst2 : (c.kids.map fun y => y.prn G H).take (i + 1) = K ++ [c.kids[i].prn G H] := by rw [← List.map_take]; exact hst
    generalize c.kids[i].prn G H = R at *
    try (simp [hlt, Cd.cells_eq])
    repeat (refine sR ?_; simp [hlt, Cd.cells_eq])
    refine Stop.of_d (ihx _ _) ?_
    simp
    refine ⟨⟨by omega, htk.live⟩, ?_⟩
    try (simp [hw])
    repeat (refine sR ?_; simp [hw])
    refine sE ?_
    refine ⟨⟨i + 1, _, _, _⟩, ⟨hlt, htk.app⟩, by simp only; omega, ?_⟩
    show Weaks _ _ _ (stCu c G H nb box (i + 1) ((c.kids.map fun y => y.prn G H).take (i + 1)) _)
    rw [hst2]
    exact Weaks.mk htk.app.le rfl (by simp [ToL, lk, lb_at]) (by simp [BoxL, lk, Cd.cells_eq])
   ·refine sX ?_
    simp only [AU, ↓reduceIte]
    have hil : i = c.kids.length := by omega
    have hKa : c.kids.map (fun x => x.prn G H) = K := by rw [← hK, List.take_of_length_le hge]
    rw [hKa] at hP
    have hwk : LftOk a (withK c K) := withK_ok h (by omega) fun y hy => by
     rw [← hKa] at hy
     obtain ⟨x, hx, rfl⟩ := List.mem_map.1 hy
     exact prn_ok _ x (Nat.lt_succ_self _) _ (h.kid x hx) _ _
    have hsh := (Cd.ovr_zero hwk.ovr).1
    have hrd := reduced_c (withK c K) hwk.fit (fun hk => by
     rcases hk with hk | hk
     ·have := shape_two hsh hk; omega
     ·have := shape_kind hsh hk; omega) (fun x hx hk => by
      have := shape_two (Cd.ovr_zero (hwk.kid x hx).ovr).1 hk
      omega)
    try (simp)
    repeat (refine sR ?_; simp)
    refine Stop.data ?_
    refine Stop.of_d (hrd _ _) ?_
    try (simp)
    repeat (refine sR ?_; simp)
    refine sT ?_
    try simp only [AU]
    refine ⟨by simp, sF hbox htok htk.old htk.le ?_⟩
    simp [packA, hP]
theorem shape_vars {c : Cd} (h : shapeC c = 0) : c.vars = 0 := by
 unfold shapeC at h
 split at h
 ·split at h
  ·rename_i hp
   simp only [plainC, Bool.and_eq_true] at hp
   exact (z0_iff _).1 hp.2.1
  ·cases h
 ·cases h
abbrev cpyRow (c : Cd) (K : List Cd) (own : Own) : List AV := [I c.kind, .osl 9 (K.map Cd.cells) own, .d (ints c.m.nodes), .d (ints c.m.edges), .d (ints c.g.nodes), .d (AM.edges c.g.edges), nilS, z0i, nilS]
def stCy (c : Cd) (nb : Nat) (box : Bxs) (x : Acc) : AState :=
 ⟨tl [(34, I x.i), (33, I c.kids.length), (32, .d (conds c.kids)), (3, .ptr (nb + 3) 0 0), (2, .ptr (nb + 2) 0 0), (1, .ptr (nb + 1) 0 0)], lb nb box [(3, [cpyRow c (c.kids.take x.i) x.own]), (1, [c.row]), (2, [zRow])], x.tok, x.nt⟩
theorem copied34_c : ∀ (n : Nat) (c : Cd), SizeOf.sizeOf c < n → ∀ a, LftOk a c → ∀ (tok : Tks) (nt : Nat), DCall Tryz.prog 72 [c.av] tok nt c.av tok nt
 | 0, c, hn, _, _, _, _ => absurd hn (Nat.not_lt_zero _)
 | n + 1, c, hn, a, h, tok, nt => by
  have ih := fun x (hx : x ∈ c.kids) => copied34_c n x (by have := Cd.kid_lt hx; omega) _ (h.kid x hx)
  have hv := shape_vars (Cd.ovr_zero h.ovr).1
  have hsl := h.bare.sl
  have hte := h.bare.te
  have hf := h.fit
  have hkl := hf.kids
  rw [kidN_eq] at hkl
  intro box nb
  refine sB Tryz.func72 Tryz.ntmps72 ?_
  intro hbox htok
  simp only at hbox htok
  apply AL.start
  try (simp)
  repeat (refine sR ?_; simp)
  refine Stop.of_d (clone_c c.m.nodes hf.m.n _ _) ?_
  simp
  refine Stop.of_d (clone_c c.m.edges hf.m.e _ _) ?_
  simp
  try (simp)
  repeat (refine sR ?_; simp)
  refine Stop.of_d (clone_c c.g.nodes hf.g.n _ _) ?_
  simp
  refine Stop.of_d (cloneE_c c.g.edges hf.g.e _ _) ?_
  simp
  try (simp)
  repeat (refine sR ?_; simp)
  have htk0 := ((TK.start htok).full.app.full.app.full.app.full.app).tail.tail.tail.tail.full
  refine sN ?_
  refine AL.loopT (fun x => stCy c nb box x) (fun x => x.i ≤ c.kids.length ∧ TK tok nt x.tok x.nt [x.own]) (fun x => c.kids.length - x.i) ⟨0, .full, _, _⟩ ⟨Nat.zero_le _, htk0⟩ (Weaks.mk htk0.le rfl (by simp [ToL, lk, lb_at]) (by simp [BoxL, lk, To.data])) ?_
  rintro ⟨i, own, tok', nt'⟩ S ⟨hi, htk⟩ hS
  simp only [stCy] at hS hi htk
  subst hS
  have hw := sW (i := i) (by omega)
  have hKl : (c.kids.take i).length = i := by rw [List.length_take]; omega
  obtain ⟨K, hK⟩ : ∃ K, c.kids.take i = K := ⟨_, rfl⟩
  rw [hK] at hKl ⊢
  try (simp)
  repeat (refine sR ?_; simp)
  refine sC ?_
  simp
  refine ⟨fun hlt => ?_, fun hge => ?_⟩
  ·have ihx := ih _ (List.getElem_mem hlt)
   have hst : c.kids.take (i + 1) = K ++ [c.kids[i]] := by rw [List.take_succ_eq_append_getElem hlt, hK]
   try (simp [hlt, Cd.cells_eq])
   repeat (refine sR ?_; simp [hlt, Cd.cells_eq])
   refine Stop.of_d (ihx _ _) ?_
   simp
   refine ⟨⟨by omega, htk.live⟩, ?_⟩
   try (simp [hw])
   repeat (refine sR ?_; simp [hw])
   refine sE ?_
   refine ⟨⟨i + 1, _, _, _⟩, ⟨hlt, htk.app⟩, by simp only; omega, ?_⟩
   simp only [stCy, hst]
   exact Weaks.mk htk.app.le rfl (by simp [ToL, lk, lb_at]) (by simp [BoxL, lk, Cd.cells_eq])
  ·refine sX ?_
   simp only [AU, ↓reduceIte]
   rw [List.take_of_length_le hge] at hK
   subst hK
   try (simp)
   repeat (refine sR ?_; simp)
   refine sT ?_
   try simp only [AU]
   refine ⟨by simp, sF hbox htok htk.old htk.le ?_⟩
   simp [packA, hv, hsl, hte, slots, tests]
end Go.AM
namespace Go.AM
open Go Go.Proofs
theorem ovr_bare2 : ∀ (n : Nat) (c : Cd), SizeOf.sizeOf c < n → ∀ a, c.ovr a = 0 → c.Bare
 | 0, c, hn, _, _ => absurd hn (Nat.not_lt_zero _)
 | n + 1, c, hn, a, h => by
  obtain ⟨h0, _, h2⟩ := Cd.ovr_zero h
  unfold shapeC at h0
  split at h0
  ·split at h0
   ·rename_i hp
    simp only [plainC, Bool.and_eq_true] at hp
    have e1 := (z0_iff _).1 hp.1
    have e2 := (z0_iff _).1 hp.2.2
    exact .mk (List.length_eq_zero_iff.1 (by omega)) (List.length_eq_zero_iff.1 (by omega)) fun x hx => ovr_bare2 n x (by have := Cd.kid_lt hx; omega) _ (h2 x hx)
   ·cases h0
  ·cases h0
def pruR (t : Ty) (r : Ru) (c : Cd) : Cd × Int :=
 if tyE t ≠ 0 then (cdOf 0 [], tyE t) else if strR r ≠ 0 then (cdOf 0 [], strR r) else if validC r.lg c ≠ 0 then (cdOf 0 [], validC r.lg c)
 else (c.prn (delL r.k.nodes r.lg.nodes.length) (iota r.lg.edges.length), 0)
def stP1 (r : Ru) (c : Cd) (nb : Nat) (box : Bxs) (x : Acc) : AState :=
 ⟨tl [(45, I x.i), (44, I r.lg.nodes.length), (14, nilS), (13, .osl 1 (rI (delL r.k.nodes x.i)) x.own), (11, .ptr (nb + 11) 0 0), (6, .ptr (nb + 6) 0 0), (5, .ptr (nb + 5) 0 0), (4, .ptr (nb + 4) 0 0)], lb nb box [(11, [[.d (ints r.lg.nodes), .d (AM.edges r.lg.edges)]]), (5, [c.row]), (4, [r.row]), (6, [zRow])], x.tok, x.nt⟩
def stP2 (c : Cd) (D : List Int) (m : Nat) (nb : Nat) (box : Bxs) (x : Acc) : AState :=
 ⟨tl [(62, I x.i), (61, I m), (14, .osl 1 (rI (iota x.i)) x.own), (13, .d (ints D)), (6, .ptr (nb + 6) 0 0), (5, .ptr (nb + 5) 0 0)], lb nb box [(5, [c.row]), (6, [zRow])], x.tok, x.nt⟩
theorem iota_more (i : Nat) : iota (i + 1) = iota i ++ [(i : Int)] := by simp [iota, List.range_succ]
set_option maxRecDepth 100000 in
theorem pruneP_c (t : Ty) (ht : t.Fit) (r : Ru) (hr : r.Fit) (c : Cd) (hc : c.Fit) (tok : Tks) (nt : Nat) : DCall Tryz.prog 23 [t.av, r.av, c.av] tok nt (.tup [(pruR t r c).1.av, I (pruR t r c).2]) tok nt := by
 intro box nb
 have h1 := valid_c4 t ht ht.hM
 have h2 := structural_c r hr
 have h3 := validC_c r.lg c hr.lg hc
 have hv := @strR_valid r
 have hvc := @validC_zero r.lg c
 obtain ⟨N, hN⟩ : ∃ N, pruR t r c = N := ⟨_, rfl⟩
 rw [hN]
 unfold pruR at hN
 generalize tyE t = E at *
 generalize tyN t = Z at *
 generalize strR r = S at *
 generalize validC r.lg c = V at *
 refine sB Tryz.func23 Tryz.ntmps23 ?_
 intro hbox htok
 simp only at hbox htok
 apply AL.start
 try (simp)
 repeat (refine sR ?_; simp)
 refine Stop.of_d (h1 _ _) ?_
 simp
 try (simp)
 repeat (refine sR ?_; simp)
 by_cases e1 : E = 0
 ·rw [if_neg (by simp [e1])] at hN
  refine sC ?_
  simp [e1]
  try (simp)
  repeat (refine sR ?_; simp)
  refine Stop.of_d (h2 _ _) ?_
  simp
  try (simp)
  repeat (refine sR ?_; simp)
  by_cases e2 : S = 0
  ·rw [if_neg (by simp [e2])] at hN
   obtain ⟨v1, _⟩ := hv e2
   have hnn := (validG_types v1).1
   refine sC ?_
   simp [e2]
   try (simp)
   repeat (refine sR ?_; simp)
   refine Stop.of_d (h3 _ _) ?_
   simp
   try (simp)
   repeat (refine sR ?_; simp)
   by_cases e3 : V = 0
   ·rw [if_neg (by simp [e3])] at hN
    have hov := (hvc e3).2
    have hok : LftOk r.lg c := ⟨hov, hc, ovr_bare2 _ c (Nat.lt_succ_self _) _ hov⟩
    have hcp := copied34_c _ c (Nat.lt_succ_self _) _ hok
    have hct := cut_c _ c (Nat.lt_succ_self _) _ hok (delL r.k.nodes r.lg.nodes.length) (iota r.lg.edges.length) (by have := flatN_len (delF_len r.k.nodes) r.lg.nodes.length; rw [delL]; omega) (by simp; omega) (fun x hx => mem_delL hx) (fun x hx => by simp [iota] at hx; omega)
    refine sC ?_
    simp [e3]
    try (simp)
    repeat (refine sR ?_; simp)
    refine sN ?_
    refine AL.loopT (fun x => stP1 r c nb box x) (fun x => x.i ≤ r.lg.nodes.length ∧ TK tok nt x.tok x.nt [x.own]) (fun x => r.lg.nodes.length - x.i) ⟨0, .full, tok, nt⟩ ⟨Nat.zero_le _, (TK.start htok).full⟩ (Weaks.mk (Nat.le_refl _) rfl (by simp [ToL, lk, lb_at, delL, flatN]) (by simp [BoxL, lk])) ?_
    rintro ⟨i, own, tok', nt'⟩ S' ⟨hi, htk⟩ hS
    simp only [stP1] at hS hi htk
    subst hS
    have hw := sW (i := i) (by omega)
    have hlen := flatN_len (delF_len r.k.nodes) i
    have hst : delL r.k.nodes (i + 1) = delL r.k.nodes i ++ delF r.k.nodes i := rfl
    have hcn := contains_c r.k.nodes i hr.k.n
    try (simp)
    repeat (refine sR ?_; simp)
    refine sC ?_
    simp
    refine ⟨fun hlt => ?_, fun hge => ?_⟩
    ·try (simp [hlt])
     repeat (refine sR ?_; simp [hlt])
     refine Stop.of_d (hcn _ _) ?_
     simp
     by_cases hm : (i : Int) ∈ r.k.nodes
     ·rw [show delF r.k.nodes i = [] from if_pos hm, List.append_nil] at hst
      try (simp [hm])
      repeat (refine sR ?_; simp [hm])
      refine sC ?_
      simp [hm]
      try (simp [hw])
      repeat (refine sR ?_; simp [hw])
      refine sE ?_
      refine ⟨⟨i + 1, own, tok', nt'⟩, ⟨hlt, htk⟩, by simp only; omega, ?_⟩
      simp only [stP1, hst]
      exact Weaks.mk htk.le rfl (by simp [ToL, lk, lb_at]) (by simp [BoxL, lk])
     ·rw [show delF r.k.nodes i = [(i : Int)] from if_neg hm] at hst
      try (simp [hm])
      repeat (refine sR ?_; simp [hm])
      refine sC ?_
      simp [hm]
      try (simp)
      repeat (refine sR ?_; simp)
      refine ⟨⟨by rw [delL]; omega, htk.live⟩, ?_⟩
      try (simp [hw])
      repeat (refine sR ?_; simp [hw])
      refine sE ?_
      refine ⟨⟨i + 1, _, _, _⟩, ⟨hlt, htk.app⟩, by simp only; omega, ?_⟩
      simp only [stP1, hst]
      exact Weaks.mk htk.app.le rfl (by simp [ToL, lk, lb_at, rI]) (by simp [BoxL, lk])
    ·refine sX ?_
     simp only [AU, ↓reduceIte]
     have hin : i = r.lg.nodes.length := by omega
     subst hin
     generalize delL r.k.nodes r.lg.nodes.length = D at *
     try (simp)
     repeat (refine sR ?_; simp)
     refine sN ?_
     have htk0 := htk.tail.full
     refine AL.loopT (fun x => stP2 c D r.lg.edges.length nb box x) (fun x => x.i ≤ r.lg.edges.length ∧ TK tok nt x.tok x.nt [x.own]) (fun x => r.lg.edges.length - x.i) ⟨0, .full, tok', nt'⟩ ⟨Nat.zero_le _, htk0⟩ (Weaks.mk htk0.le rfl (by simp [ToL, lk, lb_at, iota, To.data]) (by simp [BoxL, lk])) ?_
     clear htk htk0
     rintro ⟨i, own, tok', nt'⟩ S' ⟨hi, htk⟩ hS
     simp only [stP2] at hS hi htk
     subst hS
     have hw := sW (i := i) (by omega)
     have hsi := iota_more i
     have hil : (iota i).length = i := by simp
     try (simp)
     repeat (refine sR ?_; simp)
     refine sC ?_
     simp
     refine ⟨fun hlt => ?_, fun hge => ?_⟩
     ·try (simp)
      repeat (refine sR ?_; simp)
      refine ⟨⟨by omega, htk.live⟩, ?_⟩
      try (simp [hw])
      repeat (refine sR ?_; simp [hw])
      refine sE ?_
      refine ⟨⟨i + 1, _, _, _⟩, ⟨hlt, htk.app⟩, by simp only; omega, ?_⟩
      simp only [stP2, hsi]
      exact Weaks.mk htk.app.le rfl (by simp [ToL, lk, lb_at, rI]) (by simp [BoxL, lk])
     ·refine sX ?_
      simp only [AU, ↓reduceIte]
      have hin : i = r.lg.edges.length := by omega
      subst hin
      generalize iota r.lg.edges.length = W at *
      try (simp)
      repeat (refine sR ?_; simp)
      refine Stop.of_d (hcp _ _) ?_
      simp
      refine Stop.data ?_
      refine Stop.of_d (hct _ _) ?_
      try (simp)
      repeat (refine sR ?_; simp)
      refine sT ?_
      try simp only [AU]
      refine ⟨by simp, sF hbox htok htk.old htk.le ?_⟩
      simp [packA, ← hN]
   ·rw [if_pos e3] at hN
    have b3 : (V != 0) = true := by simp [e3]
    refine sC ?_
    simp [b3]
    try (simp)
    repeat (refine sR ?_; simp)
    refine sT ?_
    try simp only [AU]
    refine ⟨by simp, sF hbox htok (fun _ h => h) (Nat.le_refl _) ?_⟩
    simp [packA, ← hN, cdOf, Cd.kind, Cd.kids, Cd.m, Cd.g, Cd.sl, Cd.vars, Cd.te, conds, ints, AM.edges, slots, tests]
  ·rw [if_pos e2] at hN
   have b2 : (S != 0) = true := by simp [e2]
   refine sC ?_
   simp [b2]
   try (simp)
   repeat (refine sR ?_; simp)
   refine sT ?_
   try simp only [AU]
   refine ⟨by simp, sF hbox htok (fun _ h => h) (Nat.le_refl _) ?_⟩
   simp [packA, ← hN, cdOf, Cd.kind, Cd.kids, Cd.m, Cd.g, Cd.sl, Cd.vars, Cd.te, conds, ints, AM.edges, slots, tests]
 ·rw [if_pos e1] at hN
  have b1 : (E != 0) = true := by simp [e1]
  refine sC ?_
  simp [b1]
  try (simp)
  repeat (refine sR ?_; simp)
  refine sT ?_
  try simp only [AU]
  refine ⟨by simp, sF hbox htok (fun _ h => h) (Nat.le_refl _) ?_⟩
  simp [packA, ← hN, cdOf, Cd.kind, Cd.kids, Cd.m, Cd.g, Cd.sl, Cd.vars, Cd.te, conds, ints, AM.edges, slots, tests]
end Go.AM
namespace Go.AM
open Go Go.Proofs
end Go.AM
namespace Go.AM
open Go Go.Proofs Go.ChangeShapes
end Go.AM
namespace Go.AM
open Go Go.Proofs
theorem yesB_hol {x : Cd} (h : isYesB x = true) (g : Gr) (q : Mo) : x.hol g q = true := by
 have k : x.kind = 1 := by simpa [isYesB] using h
 rw [Cd.hol_eq, k]
 rfl
theorem noB_kid {x : Cd} (h : isNoB x = true) : x.kind = 2 ∧ ∃ y r, x.kids = y :: r ∧ y.kind = 1 := by
 unfold isNoB at h
 split at h
 ·rename_i k2
  refine ⟨k2, ?_⟩
  cases hk : x.kids with
  | nil => simp [hd1, hk, cdOf, Cd.kind] at h
  | cons y r => exact ⟨y, r, rfl, by simpa [hd1, hk] using h⟩
 ·cases h
theorem noB_hol {x : Cd} (h : isNoB x = true) (g : Gr) (q : Mo) : x.hol g q = false := by
 obtain ⟨k2, y, r, hk, k1⟩ := noB_kid h
 have hy : y.hol g q = true := yesB_hol (by simp [isYesB, k1]) g q
 rw [Cd.hol_eq, k2, hk]
 simp [holStep, hy]
theorem yesC_hol (g : Gr) (q : Mo) : yesC.hol g q = true := yesB_hol rfl g q
theorem noC_hol (g : Gr) (q : Mo) : noC.hol g q = false := noB_hol (by decide) g q
theorem hol3 {c : Cd} (k : c.kind = 3) (g : Gr) (q : Mo) : c.hol g q = c.kids.all fun x => x.hol g q := by
 rw [Cd.hol_eq, k]
 simp [holStep, List.all_map, Function.comp_def]
theorem hol4 {c : Cd} (k : c.kind = 4) (g : Gr) (q : Mo) : c.hol g q = c.kids.any fun x => x.hol g q := by
 rw [Cd.hol_eq, k]
 simp [holStep, List.any_map, Function.comp_def]
theorem hol2 {c : Cd} (k : c.kind = 2) (g : Gr) (q : Mo) : c.hol g q = !((c.kids.map fun x => x.hol g q).headD false) := by
 rw [Cd.hol_eq, k]
 simp [holStep]
theorem hol5 {a g : Gr} {c : Cd} {q : Mo} (k : c.kind = 5) (hx : Emb a c.g c.m) (hm : Emb a g q) : c.hol g q = true ↔ ∃ p, Emb c.g g p ∧ thenM c.m p = q ∧ (c.kids.map fun x => x.hol g p).headD false = true := by
 rw [Cd.hol_eq, k]
 simp only [holStep]
 exact exists_iff hx hm _
theorem all_drop {p f : Cd → Bool} (h : ∀ x, p x = true → f x = true) : ∀ l : List Cd, (l.filter fun x => !p x).all f = l.all f
 | [] => rfl
 | x :: r => by
  cases hp : p x
  ·simp [hp, all_drop h r]
  ·simp [hp, all_drop h r, h x hp]
theorem any_drop {p f : Cd → Bool} (h : ∀ x, p x = true → f x = false) : ∀ l : List Cd, (l.filter fun x => !p x).any f = l.any f
 | [] => rfl
 | x :: r => by
  cases hp : p x
  ·simp [hp, any_drop h r]
  ·simp [hp, any_drop h r, h x hp]
theorem lstR3_hol (K : List Cd) (g : Gr) (q : Mo) : (lstR 3 yesC K).hol g q = K.all fun x => x.hol g q := by
 unfold lstR
 split
 ·rename_i h0
  rw [List.length_eq_zero_iff.1 h0, yesC_hol]
  rfl
 ·split
  ·rename_i h1
   obtain ⟨x, rfl⟩ := List.length_eq_one_iff.1 h1
   simp
  ·exact hol3 rfl g q
theorem lstR4_hol (K : List Cd) (g : Gr) (q : Mo) : (lstR 4 noC K).hol g q = K.any fun x => x.hol g q := by
 unfold lstR
 split
 ·rename_i h0
  rw [List.length_eq_zero_iff.1 h0, noC_hol]
  rfl
 ·split
  ·rename_i h1
   obtain ⟨x, rfl⟩ := List.length_eq_one_iff.1 h1
   simp
  ·exact hol4 rfl g q
theorem kid0_no {c : Cd} (h : isNoB (c.kids.getD 0 (cdOf 0 [])) = true) (g : Gr) (q : Mo) : (c.kids.map fun x => x.hol g q).headD false = false := by
 cases hk : c.kids with
 | nil => rfl
 | cons y r =>
  rw [hk] at h
  simp only [List.getD_cons_zero] at h
  simp [noB_hol h g q]
theorem redS_hol {a g : Gr} {c : Cd} {q : Mo} (hx : c.kind = 5 → Emb a c.g c.m) (hm : Emb a g q) : (redS c).hol g q = c.hol g q := by
 unfold redS
 split
 ·rename_i k2
  split
  ·rename_i hn
   rw [yesC_hol, hol2 k2, kid0_no hn]
   rfl
  ·rfl
 ·split
  ·rename_i k3
   unfold listS
   rw [hol3 k3]
   split
   ·rename_i ha
    obtain ⟨x, hxm, hx0⟩ := List.any_eq_true.1 (show c.kids.any isNoB = true from ha)
    rw [noC_hol]
    symm
    rw [← Bool.not_eq_true, List.all_eq_true]
    intro h
    have := h x hxm
    rw [noB_hol hx0] at this
    cases this
   ·rw [k3, lstR3_hol]
    exact all_drop (fun x h => yesB_hol h g q) _
  ·split
   ·rename_i k4
    unfold listS
    rw [hol4 k4]
    split
    ·rename_i ha
     obtain ⟨x, hxm, hx0⟩ := List.any_eq_true.1 (show c.kids.any isYesB = true from ha)
     rw [yesC_hol]
     symm
     rw [List.any_eq_true]
     exact ⟨x, hxm, yesB_hol hx0 g q⟩
    ·rw [k4, lstR4_hol]
     exact any_drop (fun x h => noB_hol h g q) _
   ·split
    ·rename_i k5
     split
     ·rename_i hn
      rw [noC_hol]
      symm
      rw [← Bool.not_eq_true, hol5 k5 (hx k5) hm]
      rintro ⟨p, _, _, hp⟩
      rw [kid0_no hn] at hp
      cases hp
     ·rfl
    ·rfl
theorem no_dng {l x g : Gr} {keep m e q : Mo} {gone es : List Int} (he : Emb l x e) (hq : Emb x g q) (ht : thenM e q = m) (hd : dangL g keep m = false) (hG : ∀ y ∈ gone, y ∈ goneI e.nodes keep.nodes) (hH : ∀ y ∈ e.edges, y ∈ es) : dngB x es gone = false := by
 have v := hq.vm
 have ve := he.vm
 have hx := validG_edges v.va
 have h0 : firstE (dngAt x es gone) x.edges.length = 0 := firstE_zero _ fun j hj => by
  rw [dngAt_eq hj]
  split
  ·rfl
  ·rename_i hjs
   have hjq : j < q.edges.length := by rw [v.le]; exact hj
   have hje : x.edges.getD j default = x.edges[j] := by simp [hj]
   have het := v.et j hj
   rw [hje] at het
   have hc := v.e _ (getD_mem (d := 0) hjq)
   have hnm : q.edges.getD j 0 ∉ m.edges := fun hm => by
    rw [← ht] at hm
    obtain ⟨i, hi, hie⟩ := mem_getD hm
    have hi2 : i < e.edges.length := by simpa [thenM] using hi
    have h1 : (thenM e q).edges.getD i 0 = q.edges.getD (e.edges.getD i 0).toNat 0 := by
     show (byK e.edges q.edges e.edges.length).getD i 0 = _
     exact byK_getD hi2
    rw [h1] at hie
    have hr := ve.e _ (getD_mem (d := 0) hi2)
    have h2 := getD_inj hq.e (show (e.edges.getD i 0).toNat < q.edges.length by rw [v.le]; omega) hjq hie
    refine hjs (hH _ ?_)
    rw [show ((j : Nat) : Int) = e.edges.getD i 0 by omega]
    exact getD_mem hi2
   have hgn : ∀ y : Int, 0 ≤ y → y ∈ gone → q.nodes.getD y.toNat 0 ∈ goneI m.nodes keep.nodes := fun y _ hy => by
    obtain ⟨i, hi, hik, hie⟩ := goneI_mem.1 (hG y hy)
    refine goneI_mem.2 ⟨i, by rw [← ht]; simpa [thenM] using hi, hik, ?_⟩
    rw [← ht]
    show (byK e.nodes q.nodes e.nodes.length).getD i 0 = _
    rw [byK_getD hi, hie]
   have hno : ¬ (q.edges.getD j 0 ∉ m.edges ∧ (q.nodes.getD x.edges[j].fr.toNat 0 ∈ goneI m.nodes keep.nodes ∨ q.nodes.getD x.edges[j].to.toNat 0 ∈ goneI m.nodes keep.nodes)) := fun h => by
    unfold dangL at hd
    rw [List.any_eq_false] at hd
    have h3 := hd (q.edges.getD j 0).toNat (List.mem_range.2 (by omega))
    rw [het, show (((q.edges.getD j 0).toNat : Nat) : Int) = q.edges.getD j 0 by omega] at h3
    exact h3 (decide_eq_true h)
   obtain ⟨b1, b2, b3, b4⟩ := hx _ (List.getElem_mem hj)
   split
   ·rename_i hf
    exact absurd ⟨hnm, .inl (hgn _ b1 hf)⟩ hno
   ·split
    ·rename_i hf
     exact absurd ⟨hnm, .inr (hgn _ b3 hf)⟩ hno
    ·rfl
 unfold dngB
 rw [h0]
 rfl
theorem prn_hol {l g : Gr} {keep m : Mo} (hd : dangL g keep m = false) : ∀ (n : Nat) (c : Cd), SizeOf.sizeOf c < n → ∀ (a : Gr), c.ovr a = 0 → ∀ (e q : Mo) (gone es : List Int), Emb l a e → Emb a g q → thenM e q = m → (∀ y ∈ gone, y ∈ goneI e.nodes keep.nodes) → (∀ y ∈ e.edges, y ∈ es) → (c.prn gone es).hol g q = c.hol g q
 | 0, c, hn, _, _, _, _, _, _, _, _, _, _, _ => absurd hn (Nat.not_lt_zero _)
 | n + 1, c, hn, a, hv, e, q, gone, es, he, hq, ht, hG, hH => by
  have ih := fun x (hx : x ∈ c.kids) => prn_hol (l := l) hd n x (by have := Cd.kid_lt hx; omega)
  obtain ⟨_, _, hk⟩ := Cd.ovr_zero hv
  rw [c.prn_eq]
  by_cases k5 : c.kind = 5
  ·obtain ⟨hx, y, hy⟩ := ovr_ex hv k5
   have hin : c.inn a = c.g := if_pos k5
   rw [hin] at hk
   have hgg : c.gg gone = byK gone c.m.nodes gone.length := if_pos k5
   have hge : c.ge es = byK es c.m.edges es.length := if_pos k5
   have he2 := he.comp hx
   have hG2 : ∀ y ∈ c.gg gone, y ∈ goneI (thenM e c.m).nodes keep.nodes := fun y hy => by
    rw [hgg] at hy
    obtain ⟨i, hi, rfl⟩ := mem_getD hy
    have hi2 : i < gone.length := by simpa using hi
    rw [byK_getD hi2]
    obtain ⟨j, hj, hjk, hje⟩ := goneI_mem.1 (hG _ (getD_mem (d := 0) hi2))
    refine goneI_mem.2 ⟨j, by simpa [thenM] using hj, hjk, ?_⟩
    show (byK e.nodes c.m.nodes e.nodes.length).getD j 0 = _
    rw [byK_getD hj, hje]
   have hH2 : ∀ y ∈ (thenM e c.m).edges, y ∈ c.ge es := fun y hy => by
    rw [hge]
    obtain ⟨i, hi, rfl⟩ := mem_getD hy
    have hi2 : i < e.edges.length := by simpa [thenM] using hi
    have h1 : (thenM e c.m).edges.getD i 0 = c.m.edges.getD (e.edges.getD i 0).toNat 0 := byK_getD (h := c.m.edges) hi2
    rw [h1]
    obtain ⟨k, hk1, hk2⟩ := mem_getD (hH _ (getD_mem (d := 0) hi2))
    rw [← hk2, ← byK_getD (h := c.m.edges) hk1]
    exact getD_mem (by simpa using hk1)
   have hnx : ∀ p, Emb c.g g p → thenM c.m p = q → thenM (thenM e c.m) p = m := fun p hp hpq => by
    rw [thenM_assoc he.inn (by rw [hx.vm.ln]) (by rw [hx.vm.le]), hpq, ht]
   by_cases hdd : c.kind = 5 ∧ dngB c.g (c.ge es) (c.gg gone) = true
   ·rw [if_pos hdd, noC_hol]
    symm
    rw [← Bool.not_eq_true, hol5 k5 hx hq]
    rintro ⟨p, hp, hpq, _⟩
    have := no_dng he2 hp (hnx p hp hpq) hd hG2 hH2
    rw [hdd.2] at this
    cases this
   ·rw [if_neg hdd, redS_hol (a := a) (c := withK c (c.kids.map fun x => x.prn (c.gg gone) (c.ge es))) (fun _ => hx) hq]
    have e1 : (withK c (c.kids.map fun x => x.prn (c.gg gone) (c.ge es))).hol g q = true ↔ c.hol g q = true := by
     rw [hol5 (a := a) (c := withK c (c.kids.map fun x => x.prn (c.gg gone) (c.ge es))) k5 hx hq, hol5 k5 hx hq]
     refine exists_congr fun p => and_congr_right fun hp => and_congr_right fun hpq => ?_
     have h2 := ih y (by rw [hy]; simp) c.g (hk y (by rw [hy]; simp)) _ p _ _ he2 hp (hnx p hp hpq) hG2 hH2
     show (((c.kids.map fun x => x.prn (c.gg gone) (c.ge es)).map fun x => x.hol g p).headD false = true) ↔ _
     rw [hy]
     simp only [List.map_cons, List.map_nil, List.headD_cons, h2]
    rw [Bool.eq_iff_iff]
    exact e1
  ·rw [if_neg (fun h => k5 h.1)]
   have hin : c.inn a = a := if_neg k5
   rw [hin] at hk
   have hgg : c.gg gone = gone := if_neg k5
   have hge : c.ge es = es := if_neg k5
   rw [hgg, hge, redS_hol (a := a) (c := withK c (c.kids.map fun x => x.prn gone es)) (fun h => absurd h k5) hq, Cd.hol_eq, Cd.hol_eq]
   have hmap : ((c.kids.map fun x => x.prn gone es).map fun x => x.hol g q) = c.kids.map fun x => x.hol g q := by
    rw [List.map_map]
    exact List.map_congr_left fun x hx => ih x hx a (hk x hx) e q gone es he hq ht hG hH
   have k5' : ¬ (withK c (c.kids.map fun x => x.prn gone es)).kind = 5 := k5
   unfold holStep
   rw [if_neg k5, if_neg k5']
   show (if c.kind = 2 then !(((c.kids.map fun x => x.prn gone es).map fun x => x.hol g q).headD false) else if c.kind = 3 then ((c.kids.map fun x => x.prn gone es).map fun x => x.hol g q).all id else if c.kind = 4 then ((c.kids.map fun x => x.prn gone es).map fun x => x.hol g q).any id else true) = _
   rw [hmap]
theorem cntL_mem {x : Cd} : ∀ {l : List Cd}, x ∈ l → x.cnt ≤ Cd.cntL l
 | y :: r, h => by
  rcases List.mem_cons.1 h with rfl | h
  ·simp only [Cd.cntL]; omega
  ·have := cntL_mem h; simp only [Cd.cntL]; omega
theorem cntL_filter (p : Cd → Bool) : ∀ l : List Cd, Cd.cntL (l.filter p) ≤ Cd.cntL l
 | [] => by simp
 | x :: r => by
  have := cntL_filter p r
  cases hp : p x
  ·simp only [List.filter_cons, hp, Cd.cntL]; simp; omega
  ·simp only [List.filter_cons, hp, Cd.cntL, if_true]; omega
theorem depL_filter (p : Cd → Bool) : ∀ l : List Cd, Cd.depL (l.filter p) ≤ Cd.depL l
 | [] => by simp
 | x :: r => by
  have := depL_filter p r
  cases hp : p x
  ·simp only [List.filter_cons, hp, Cd.depL]; simp; omega
  ·simp only [List.filter_cons, hp, Cd.depL, if_true]; omega
theorem cnt_pos (c : Cd) : 1 ≤ c.cnt := by rw [c.cnt_eq]; omega
theorem yesC_cd : yesC.cnt = 1 ∧ yesC.dep = 0 := by decide +kernel
theorem noC_cd : noC.cnt = 2 ∧ noC.dep = 0 := by decide +kernel
theorem noB_cnt {x : Cd} (h : isNoB x = true) : 2 ≤ x.cnt := by
 obtain ⟨_, y, r, hk, _⟩ := noB_kid h
 have := cnt_pos y
 rw [x.cnt_eq, hk]
 simp only [Cd.cntL]
 omega
theorem lstR_cd {c e : Cd} {K : List Cd} (he : e.cnt ≤ c.cnt ∧ e.dep ≤ c.dep) (h5 : c.kind ≠ 5) (hK : Cd.cntL K ≤ Cd.cntL c.kids ∧ Cd.depL K ≤ Cd.depL c.kids) : (lstR c.kind e K).cnt ≤ c.cnt ∧ (lstR c.kind e K).dep ≤ c.dep := by
 have h1 := c.cnt_eq
 have h2 := c.dep_eq
 rw [if_neg h5] at h2
 unfold lstR
 split
 ·exact he
 ·split
  ·rename_i hl
   obtain ⟨x, rfl⟩ := List.length_eq_one_iff.1 hl
   simp only [Cd.cntL, Cd.depL] at hK
   simp only [List.getD_cons_zero]
   omega
  ·have h3 : (cdOf c.kind K).cnt = 1 + Cd.cntL K := Cd.cnt_eq _
   have h4 : (cdOf c.kind K).dep = Cd.depL K := by rw [Cd.dep_eq]; exact (if_neg h5 ▸ rfl)
   omega
theorem redS_cd {c : Cd} (h4 : c.kind = 4 → c.kids ≠ []) : (redS c).cnt ≤ c.cnt ∧ (redS c).dep ≤ c.dep := by
 have hp := cnt_pos c
 have h1 := c.cnt_eq
 have hy := yesC_cd
 have hn := noC_cd
 have hkid : isNoB (c.kids.getD 0 (cdOf 0 [])) = true → 2 ≤ c.cnt := fun h => by
  cases hk : c.kids with
  | nil => rw [hk] at h; exact absurd h (by decide)
  | cons y r =>
   have := cnt_pos y
   rw [h1, hk]
   simp only [Cd.cntL]
   omega
 have hany : anyB isNoB c.kids = true → 2 ≤ c.cnt := fun h => by
  obtain ⟨x, hx, hx0⟩ := List.any_eq_true.1 (show c.kids.any isNoB = true from h)
  have := cntL_mem hx
  have := noB_cnt hx0
  omega
 have hany2 : anyB isNoB c.kids = false ∨ anyB isNoB c.kids = true := by cases anyB isNoB c.kids <;> simp
 unfold redS
 split
 ·split
  ·omega
  ·exact ⟨Nat.le_refl _, Nat.le_refl _⟩
 ·split
  ·rename_i k3
   unfold listS
   split
   ·rename_i ha
    have := hany ha
    omega
   ·exact lstR_cd (by omega) (by omega) ⟨cntL_filter _ _, depL_filter _ _⟩
  ·split
   ·rename_i k4
    unfold listS
    split
    ·omega
    ·by_cases hK : (c.kids.filter fun x => !isNoB x).length = 0
     ·-- nothing is left: each kid was False, or there was none
      have h0 := h4 k4
      obtain ⟨x, hx⟩ := List.exists_mem_of_ne_nil _ h0
      have h3 : isNoB x = true := by
       have h4 := List.length_eq_zero_iff.1 hK
       cases hb : isNoB x
       ·have : x ∈ c.kids.filter fun x => !isNoB x := List.mem_filter.2 ⟨hx, by simp [hb]⟩
        rw [h4] at this
        simp at this
       ·rfl
      have := cntL_mem hx
      have := noB_cnt h3
      exact lstR_cd (by omega) (by omega) ⟨cntL_filter _ _, depL_filter _ _⟩
     ·have h5 : (lstR c.kind noC (c.kids.filter fun x => !isNoB x)) = lstR c.kind yesC (c.kids.filter fun x => !isNoB x) := by
       unfold lstR
       rw [if_neg hK, if_neg hK]
       split
       ·rename_i h6
        obtain ⟨x, hx⟩ := List.length_eq_one_iff.1 h6
        rw [hx]
        rfl
       ·rfl
      rw [h5]
      exact lstR_cd (by omega) (by omega) ⟨cntL_filter _ _, depL_filter _ _⟩
   ·split
    ·split
     ·rename_i hk
      have := hkid hk
      omega
     ·exact ⟨Nat.le_refl _, Nat.le_refl _⟩
    ·exact ⟨Nat.le_refl _, Nat.le_refl _⟩
theorem cntL_map {f : Cd → Cd} : ∀ l : List Cd, (∀ x ∈ l, (f x).cnt ≤ x.cnt ∧ (f x).dep ≤ x.dep) → Cd.cntL (l.map f) ≤ Cd.cntL l ∧ Cd.depL (l.map f) ≤ Cd.depL l
 | [], _ => by simp
 | x :: r, h => by
  have h1 := cntL_map r fun y hy => h y (by simp [hy])
  have h2 := h x (by simp)
  simp only [List.map_cons, Cd.cntL, Cd.depL]
  omega
theorem prn_cd : ∀ (n : Nat) (c : Cd), SizeOf.sizeOf c < n → ∀ (a : Gr), c.ovr a = 0 → ∀ gone es, (c.prn gone es).cnt ≤ c.cnt ∧ (c.prn gone es).dep ≤ c.dep
 | 0, c, hn, _, _, _, _ => absurd hn (Nat.not_lt_zero _)
 | n + 1, c, hn, a, hv, gone, es => by
  have ih := fun x (hx : x ∈ c.kids) => prn_cd n x (by have := Cd.kid_lt hx; omega)
  obtain ⟨hs, _, hk⟩ := Cd.ovr_zero hv
  rw [c.prn_eq]
  have h1 := c.cnt_eq
  have h2 := c.dep_eq
  have hno := noC_cd
  split
  ·rename_i hdd
   obtain ⟨_, y, hy⟩ := ovr_ex hv hdd.1
   have := cnt_pos y
   rw [hy] at h1
   simp only [Cd.cntL] at h1
   omega
  ·have h4 : c.kind = 4 → c.kids ≠ [] := fun k4 h0 => by
    unfold shapeC okC at hs
    rw [k4, h0] at hs
    simp at hs
   have hm := cntL_map c.kids fun x hx => ih x hx _ (hk x hx) (c.gg gone) (c.ge es)
   have hr := redS_cd (c := withK c (c.kids.map fun x => x.prn (c.gg gone) (c.ge es))) (fun k4 h0 => h4 k4 (by simpa [withK, Cd.kids] using h0))
   have h5 : (withK c (c.kids.map fun x => x.prn (c.gg gone) (c.ge es))).cnt = 1 + Cd.cntL (c.kids.map fun x => x.prn (c.gg gone) (c.ge es)) := Cd.cnt_eq _
   have h6 : (withK c (c.kids.map fun x => x.prn (c.gg gone) (c.ge es))).dep = Cd.depL (c.kids.map fun x => x.prn (c.gg gone) (c.ge es)) + if c.kind = 5 then 1 else 0 := Cd.dep_eq _
   omega
theorem mem_delL2 {keep : List Int} {n : Nat} {x : Int} (h : x ∈ delL keep n) : x ∉ keep := by
 obtain ⟨i, hi, h⟩ := mem_flatN.1 h
 unfold delF at h
 split at h
 ·cases h
 ·rename_i hk
  rw [List.mem_singleton] at h
  rw [h]
  exact hk
theorem prunes_law {t : Ty} {r : Ru} {g : Gr} {m : Mo} {c : Cd} (hT : tyE t = 0) (hs : strR r = 0) (he : Emb r.lg g m) (hd : dangL g r.k m = false) (hc : MkOk r.lg 2 8 c) :
  (pruR t r c).2 = 0 ∧ (pruR t r c).1.Fit ∧ satR r.lg (pruR t r c).1 g m = (c.hol g m, 0) ∧ satR r.lg c g m = (c.hol g m, 0) := by
 obtain ⟨v1, _⟩ := strR_valid hs
 have hvc := hc.valid v1 (by decide) (by decide)
 have e : pruR t r c = (c.prn (delL r.k.nodes r.lg.nodes.length) (iota r.lg.edges.length), 0) := by
  unfold pruR
  rw [if_neg (by simp [hT]), if_neg (by simp [hs]), if_neg (by simp [hvc])]
 rw [e]
 have hok := prn_ok _ c (Nat.lt_succ_self _) r.lg ⟨hc.ovr, hc.fit, hc.bare⟩ (delL r.k.nodes r.lg.nodes.length) (iota r.lg.edges.length)
 have hcd := prn_cd _ c (Nat.lt_succ_self _) r.lg hc.ovr (delL r.k.nodes r.lg.nodes.length) (iota r.lg.edges.length)
 have hid := (Pre.refl v1).emb
 have hh := prn_hol hd _ c (Nat.lt_succ_self _) r.lg hc.ovr (idM r.lg) m (delL r.k.nodes r.lg.nodes.length) (iota r.lg.edges.length) hid he (thenM_idR he.inn) (fun y hy => by
  have h1 := mem_delL hy
  refine goneI_mem.2 ⟨y.toNat, by simp [idM]; omega, by rw [show ((y.toNat : Nat) : Int) = y by omega]; exact mem_delL2 hy, ?_⟩
  simp only [idM]
  rw [iota_getD (by omega)]
  omega) (fun y hy => hy)
 have h1 := hc.cnt
 have h2 := hc.dep
 have hvp : validC r.lg (c.prn (delL r.k.nodes r.lg.nodes.length) (iota r.lg.edges.length)) = 0 := (MkOk.mk hok.ovr hok.fit (Nat.le_trans hcd.2 h2) (Nat.le_trans hcd.1 h1) hok.bare : MkOk r.lg 2 8 _).valid v1 (by decide) (by decide)
 exact ⟨rfl, hok.fit, by rw [sat_emb he hvp, hh], sat_emb he hvc⟩
end Go.AM
