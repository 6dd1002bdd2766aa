/-
 Parts of the proof, as merged from many texts: a machine over data, what the functions compute, plain laws.
-/
import Derived.Test.YtfgcpmeadeehhaaGreatPTP9
import Derived.WalkKit
import Derived.ProofKit
import Derived.OpenShut
import Derived.ChangeStays
import Derived.SizedLaws
set_option linter.unusedSimpArgs false
set_option linter.unusedVariables false
namespace Go.AM
open Go Go.Proofs
theorem TK.adv {mtok : Nat → Bool} {nt0 : Nat} {tok tok' : Nat → Bool} {nt nt' : Nat} {os : List Own} {own' : Own} (h : TK mtok nt0 tok nt os) (ha : Adv tok nt .full tok' nt' own') : TK mtok nt0 tok' nt' (own' :: os) := by
 have hnew : ∀ s, own' = .tok s → nt ≤ s ∧ tok' s = true := fun s e => by
  have hl := ha.live
  rw [e] at hl
  rcases ha.new with e2 | ⟨s2, e2, hs⟩
  ·rw [e] at e2; cases e2
  ·rw [e] at e2; cases e2; exact ⟨hs, hl⟩
 refine ⟨fun t ht => ha.keep t (h.old t ht) (by simp), h.lt, Nat.le_trans h.le ha.le, fun o ho t e => ?_, ?_⟩
 ·rcases List.mem_cons.1 ho with rfl | ho
  ·obtain ⟨h1, h2⟩ := hnew t e
   exact ⟨h2, Nat.le_trans h.le h1, ha.lt t h2⟩
  ·obtain ⟨h1, h2, h3⟩ := h.own o ho t e
   exact ⟨ha.keep t h1 (by simp), h2, Nat.lt_of_lt_of_le h3 ha.le⟩
 ·refine List.pairwise_cons.2 ⟨fun b hb t e e2 => ?_, h.ne⟩
  obtain ⟨h1, h2⟩ := hnew t e
  obtain ⟨_, _, h3⟩ := h.own b hb t e2
  omega
def exX (g x : Gr) : Cd := cdOf 2 [.mk 5 [cdOf 1 []] (idM g) x [] 0 []]
def appE (t : Ty) (g : Gr) (i k : Nat) : List Gr := lrgL t g i k true ++ lrgL t g i k false
def appI (t : Ty) (g : Gr) (keep : List Int) (i : Nat) : List Gr := if (i : Int) ∈ keep then [] else flatN (appE t g i) t.edges.length
def appL (t : Ty) (r : Ru) : List Gr := flatN (appI t r.lg r.k.nodes) r.lg.nodes.length
def appC (t : Ty) (r : Ru) : Cd := cdOf 3 ((appL t r).map (exX r.lg))
def badG (x : Gr) : Bool := validG x != 0
def appR (t : Ty) (r : Ru) : Cd × Int :=
 if tpdE t r ≠ 0 then (cdOf 0 [], tpdE t r) else if anyB badG (appL t r) = true then (cdOf 0 [], 3) else if (appL t r).length = 0 then (cdOf 1 [], 0)
 else if validC r.lg (appC t r) ≠ 0 then (cdOf 0 [], validC r.lg (appC t r)) else (appC t r, 0)
theorem tpdE_zero {t : Ty} {r : Ru} (h : tpdE t r = 0) : tyE t = 0 ∧ strR r = 0 ∧ tpB t r = 0 := by
 unfold tpdE at h
 split at h
 ·contradiction
 ·rename_i h1
  split at h
  ·contradiction
  ·rename_i h2
   exact ⟨Decidable.not_not.1 h1, Decidable.not_not.1 h2, h⟩
theorem mem_flatN {α : Type} {f : Nat → List α} {x : α} : ∀ {n : Nat}, x ∈ flatN f n ↔ ∃ i, i < n ∧ x ∈ f i
 | 0 => by simp [flatN]
 | n + 1 => by
  rw [flatN, List.mem_append, mem_flatN]
  constructor
  ·rintro (⟨i, hi, hx⟩ | hx)
   ·exact ⟨i, by omega, hx⟩
   ·exact ⟨n, by omega, hx⟩
  ·rintro ⟨i, hi, hx⟩
   by_cases e : i = n
   ·subst e; exact .inr hx
   ·exact .inl ⟨i, by omega, hx⟩
theorem lrgX_ok (t : Ty) (g : Gr) (node kind : Int) (out : Bool) {tok : Nat → Bool} {nt : Nat} (h : ∀ t, tok t = true → t < nt) : (lrgX t g node kind out ⟨.full, tok, nt⟩).Ok tok nt := acB_ok (acA_ok (Ac3.Ok.start h) _) _
theorem lt_app {tok : Nat → Bool} {nt : Nat} (o : Own) (h : ∀ t, tok t = true → t < nt) : ∀ t, upd (o.kill tok) nt true t = true → t < nt + 1 := by
 intro t ht
 unfold upd at ht
 split at ht
 ·omega
 ·cases o with
  | full => have := h t ht; omega
  | tok s =>
   simp only [kill_tok, upd] at ht
   split at ht
   ·cases ht
   ·have := h t ht; omega
theorem lrgL_len (t : Ty) (g : Gr) (node kind : Int) (out : Bool) : (lrgL t g node kind out).length ≤ g.nodes.length + t.nodes.length := by
 have h1 := flatN_len (lrA_len t g node kind out) g.nodes.length
 have h2 := flatN_len (lrB_len t g node kind out) t.nodes.length
 rw [lrgL, List.length_append]
 omega
theorem flatN_le {α : Type} {f : Nat → List α} {M : Nat} (h : ∀ i, (f i).length ≤ M) : ∀ n, (flatN f n).length ≤ n * M
 | 0 => by simp [flatN]
 | n + 1 => by
  have := flatN_le h n
  have := h n
  simp only [flatN, List.length_append]
  rw [Nat.add_mul, Nat.one_mul]
  omega
theorem tyE_small {t : Ty} (h : tyE t = 0) : t.nodes.length ≤ 12 ∧ t.edges.length ≤ 20 := by
 unfold tyE at h
 split at h
 ·cases h
 ·split at h
  ·cases h
  ·split at h
   ·cases h
   ·omega
theorem appE_len {t : Ty} {g : Gr} (hn : g.nodes.length ≤ 40) (ht : t.nodes.length ≤ 12) (i k : Nat) : (appE t g i k).length ≤ 104 := by
 have h1 := lrgL_len t g i k true
 have h2 := lrgL_len t g i k false
 rw [appE, List.length_append]
 omega
theorem appI_len {t : Ty} {g : Gr} (hn : g.nodes.length ≤ 40) (ht : t.nodes.length ≤ 12) (he : t.edges.length ≤ 20) (keep : List Int) (i : Nat) : (appI t g keep i).length ≤ 2080 := by
 unfold appI
 split
 ·simp
 ·have := flatN_le (f := appE t g i) (fun k => appE_len hn ht i k) t.edges.length
  have : t.edges.length * 104 ≤ 20 * 104 := Nat.mul_le_mul_right _ he
  omega
theorem mem_lrgL {t : Ty} {g : Gr} {node kind : Int} {out : Bool} {x : Gr} (h : x ∈ lrgL t g node kind out) : (∃ w, x.nodes = g.nodes ++ w ∧ w.length ≤ 1) ∧ ∃ e, x.edges = g.edges ++ [e] := by
 have ha : ∀ other nodes, x ∈ addL t g node kind out other nodes → x.nodes = nodes ∧ ∃ e, x.edges = g.edges ++ [e] := fun other nodes h => by
  unfold addL at h
  split at h
  ·rw [List.mem_singleton] at h; subst h; exact ⟨rfl, _, rfl⟩
  ·cases h
 rcases List.mem_append.1 h with h | h
 ·obtain ⟨i, _, h⟩ := mem_flatN.1 h
  unfold lrA at h
  split at h
  ·obtain ⟨h1, h2⟩ := ha _ _ h
   exact ⟨⟨[], by simpa using h1, by simp⟩, h2⟩
  ·cases h
 ·obtain ⟨i, _, h⟩ := mem_flatN.1 h
  unfold lrB at h
  split at h
  ·obtain ⟨h1, h2⟩ := ha _ _ h
   exact ⟨⟨_, h1, by simp⟩, h2⟩
  ·cases h
theorem mem_appE {t : Ty} {g : Gr} {i k : Nat} {x : Gr} (h : x ∈ appE t g i k) : (∃ w, x.nodes = g.nodes ++ w ∧ w.length ≤ 1) ∧ ∃ e, x.edges = g.edges ++ [e] := by
 rcases List.mem_append.1 h with h | h
 ·exact mem_lrgL h
 ·exact mem_lrgL h
theorem appE_fit {t : Ty} {g : Gr} (hn : g.nodes.length ≤ 40) (he : g.edges.length ≤ 80) {i k : Nat} {x : Gr} (h : x ∈ appE t g i k) : x.Fit := by
 obtain ⟨⟨w, h1, h2⟩, e, h3⟩ := mem_appE h
 refine ⟨?_, ?_⟩
 ·rw [h1, List.length_append]; omega
 ·rw [h3, List.length_append]; simp; omega
def okL (L : List Gr) : Bool := !anyB badG L
theorem okL_iff {L : List Gr} : okL L = true ↔ ∀ x ∈ L, badG x = false := by simp [okL, anyB]
theorem okL_add {L A : List Gr} {j : Nat} (hj : j < A.length) (h : okL (L ++ A.take j) = true) (h2 : badG A[j] = false) : okL (L ++ A.take (j + 1)) = true := by
 rw [okL_iff] at h ⊢
 intro x hx
 rw [List.take_succ_eq_append_getElem hj, ← List.append_assoc] at hx
 rcases List.mem_append.1 hx with hx | hx
 ·exact h x hx
 ·rw [List.mem_singleton.1 hx]; exact h2
abbrev apBox (t : Ty) (r : Ru) (K : List Cd) (own : Own) : List (Nat × List (List AV)) :=
 [(10, [[I 3, .osl 9 (K.map Cd.cells) own, nilS, nilS, nilS, nilS, nilS, z0i, nilS]]), (8, [[.d (ints (idM r.lg).nodes), .d (ints (idM r.lg).edges)]]), (7, [[.d (ints r.lg.nodes), .d (AM.edges r.lg.edges)]]), (4, [[z0i, nilS, nilS, nilS, nilS, nilS, nilS, z0i, nilS]]), (3, [r.row]), (2, [[.d (nts t.nodes), .d (ets t.edges)]])]
abbrev apS (r : Ru) (nb i : Nat) : List (Nat × AV) := [(40, I i), (39, I r.lg.nodes.length), (38, .d (ints r.lg.nodes)), (10, .ptr (nb + 10) 0 0), (8, .ptr (nb + 8) 0 0), (7, .ptr (nb + 7) 0 0), (4, .ptr (nb + 4) 0 0), (3, .ptr (nb + 3) 0 0), (2, .ptr (nb + 2) 0 0)]
structure Ix where
 i : Nat
 x : Ac3
def stA1 (t : Ty) (r : Ru) (nb : Nat) (box : Nat → Option (List (List AV))) (i : Nat) (L : List Gr) (x : Ac3) : AState := ⟨tl (apS r nb i), lb nb box (apBox t r (L.map (exX r.lg)) x.own), x.tok, x.nt⟩
def stA2 (t : Ty) (r : Ru) (i : Nat) (nb : Nat) (box : Nat → Option (List (List AV))) (k : Nat) (L : List Gr) (x : Ac3) : AState := ⟨tl ((51, I k) :: (50, I t.edges.length) :: (11, I i) :: apS r nb i), lb nb box (apBox t r (L.map (exX r.lg)) x.own), x.tok, x.nt⟩
def stA3 (t : Ty) (r : Ru) (i k : Nat) (A : List Gr) (nb : Nat) (box : Nat → Option (List (List AV))) (j : Nat) (L : List Gr) (x : Ac3) : AState := ⟨tl ((66, I j) :: (65, I A.length) :: (64, .d (grs A)) :: (51, I k) :: (50, I t.edges.length) :: (11, I i) :: apS r nb i), lb nb box (apBox t r (L.map (exX r.lg)) x.own), x.tok, x.nt⟩
theorem exX_fit {g x : Gr} (hg : g.Fit) (hx : x.Fit) : (exX g x).Fit := by
 have h1 : (cdOf 1 []).Fit := cdOf_fit (by rw [kidN_eq]; simp) (by simp)
 refine cdOf_fit (by rw [kidN_eq]; simp) fun y hy => ?_
 rw [List.mem_singleton] at hy
 subst hy
 exact .mk (by rw [kidN_eq]; simp [Cd.kids]) ⟨by simpa [Cd.m, idM] using hg.n, by simpa [Cd.m, idM] using hg.e⟩ (by simpa [Cd.g] using hx) (by rw [bigN_eq]; simp [Cd.sl]) (by rw [bigN_eq]; simp [Cd.te]) (by simpa [Cd.kids] using h1)
theorem appC_fit {t : Ty} {r : Ru} (hn : r.lg.nodes.length ≤ 40) (he : r.lg.edges.length ≤ 80) (hl : (appL t r).length ≤ 83200) : (appC t r).Fit := by
 refine cdOf_fit (by rw [kidN_eq]; simp; omega) fun y hy => ?_
 obtain ⟨x, hx, rfl⟩ := List.mem_map.1 hy
 obtain ⟨i, _, h1⟩ := mem_flatN.1 hx
 unfold appI at h1
 split at h1
 ·cases h1
 ·obtain ⟨k, _, h2⟩ := mem_flatN.1 h1
  exact exX_fit ⟨by omega, by omega⟩ (appE_fit hn he h2)
set_option maxRecDepth 100000 in
theorem applicable_c (t : Ty) (ht : t.Fit) (r : Ru) (hr : r.Fit) (tok : Nat → Bool) (nt : Nat) : DCall Tryz.prog 19 [t.av, r.av] tok nt (.tup [(appR t r).1.av, I (appR t r).2]) tok nt := by
 intro box nb
 have htn := ht.n
 have h1 := typed_c t ht r hr
 have hz := @tpdE_zero t r
 obtain ⟨N, hN⟩ : ∃ N, appR t r = N := ⟨_, rfl⟩
 rw [hN]
 unfold appR at hN
 generalize tpdE t r = E at *
 refine sB Tryz.func19 Tryz.ntmps19 ?_
 intro hbox htok
 simp only at hbox htok
 apply AL.start
 try (simp)
 repeat (refine sR ?_; simp)
 refine Stop.of_d (h1 _ _) ?_
 simp
 try (simp)
 repeat (refine sR ?_; simp)
 by_cases e1 : E = 0
 ·rw [if_neg (by simp [e1])] at hN
  obtain ⟨z1, z2, z3⟩ := hz e1
  obtain ⟨v1, v2⟩ := strR_valid z2
  have hid := identity_c r.lg hr.lg v1
  refine sC ?_
  simp [e1]
  try (simp)
  repeat (refine sR ?_; simp)
  refine Stop.of_d (hid _ _) ?_
  simp
  try (simp)
  repeat (refine sR ?_; simp)
  refine sC ?_
  simp
  try (simp)
  repeat (refine sR ?_; simp)
  refine sN ?_
  have hsm := tyE_small z1
  have hnn : r.lg.nodes.length ≤ 40 := (validG_types v1).1.1
  have hee : r.lg.edges.length ≤ 80 := (validG_types v1).1.2
  refine AL.loopT (fun y : Ix => stA1 t r nb box y.i (flatN (appI t r.lg r.k.nodes) y.i) y.x) (fun y => y.i ≤ r.lg.nodes.length ∧ okL (flatN (appI t r.lg r.k.nodes) y.i) = true ∧ TK tok nt y.x.tok y.x.nt [y.x.own] ∧ ∀ t, y.x.tok t = true → t < y.x.nt) (fun y => r.lg.nodes.length - y.i) ⟨0, ⟨.full, tok, nt⟩⟩ ⟨Nat.zero_le _, rfl, (TK.start htok).full, htok⟩ (Weaks.mk (Nat.le_refl _) rfl (by simp [ToL, lk, lb_at]) (by simp [BoxL, lk, flatN])) ?_
  rintro ⟨i, x⟩ S' ⟨hi, hok, htk, hlt0⟩ hS
  simp only [stA1] at hS hi hok htk hlt0
  subst hS
  have hw := sW (i := i) (by omega)
  try (simp)
  repeat (refine sR ?_; simp)
  refine sC ?_
  simp
  refine ⟨fun hlt => ?_, fun hge => ?_⟩
  ·have hcn := contains_c r.k.nodes i hr.k.n
   have hst : flatN (appI t r.lg r.k.nodes) (i + 1) = flatN (appI t r.lg r.k.nodes) i ++ appI t r.lg r.k.nodes i := rfl
   have hLl : (flatN (appI t r.lg r.k.nodes) i).length ≤ 83200 := by
    have h1 := flatN_le (f := appI t r.lg r.k.nodes) (fun k => appI_len hnn hsm.1 hsm.2 _ k) i
    have h2 : i * 2080 ≤ 40 * 2080 := Nat.mul_le_mul_right _ (by omega)
    omega
   generalize hL2 : flatN (appI t r.lg r.k.nodes) (i + 1) = L2 at *
   generalize flatN (appI t r.lg r.k.nodes) i = L at *
   try (simp [hlt])
   repeat (refine sR ?_; simp [hlt])
   refine Stop.of_d (hcn _ _) ?_
   simp
   by_cases hm : (i : Int) ∈ r.k.nodes
   ·have hI : appI t r.lg r.k.nodes i = [] := if_pos hm
    rw [hI, List.append_nil] at hst
    refine sC ?_
    simp [hm]
    refine sX ?_
    simp only [AU, ↓reduceIte]
    try (simp [hw])
    repeat (refine sR ?_; simp [hw])
    refine sE ?_
    refine ⟨⟨i + 1, x⟩, ⟨hlt, ?_, htk, hlt0⟩, by simp only; omega, ?_⟩
    ·simp only [hL2, hst, hok]
    ·simp only [hL2, hst]
     exact Weaks.mk htk.le rfl (by simp [ToL, lk, lb_at]) (by simp [BoxL, lk])
   ·have hI : appI t r.lg r.k.nodes i = flatN (appE t r.lg i) t.edges.length := if_neg hm
    rw [hI] at hst
    have hbadI : ∀ k y, k < t.edges.length → y ∈ appE t r.lg i k → badG y = true → anyB badG (appL t r) = true := fun k y hk hy hb => List.any_eq_true.2 ⟨y, mem_flatN.2 ⟨i, hlt, by rw [hI]; exact mem_flatN.2 ⟨k, hk, hy⟩⟩, hb⟩
    refine sC ?_
    simp [hm]
    try (simp)
    repeat (refine sR ?_; simp)
    refine sN ?_
    refine AL.loopT (fun y : Ix => stA2 t r i nb box y.i (L ++ flatN (appE t r.lg i) y.i) y.x) (fun y => y.i ≤ t.edges.length ∧ okL (L ++ flatN (appE t r.lg i) y.i) = true ∧ TK tok nt y.x.tok y.x.nt [y.x.own] ∧ ∀ t, y.x.tok t = true → t < y.x.nt) (fun y => t.edges.length - y.i) ⟨0, x⟩ ⟨Nat.zero_le _, by simpa [flatN] using hok, htk, hlt0⟩ (Weaks.mk htk.le rfl (by simp [ToL, lk, lb_at, flatN]) (by simp [BoxL, lk, flatN])) ?_
    clear htk hlt0 hok
    rintro ⟨k, x⟩ S' ⟨hk, hok, htk, hlt0⟩ hS
    simp only [stA2] at hS hk hok htk hlt0
    subst hS
    obtain ⟨M, hM⟩ : ∃ M, L ++ flatN (appE t r.lg i) k = M := ⟨_, rfl⟩
    rw [hM] at hok ⊢
    have hMl : M.length ≤ 100000 := by
     have h1 := flatN_le (f := appE t r.lg i) (fun k => appE_len hnn hsm.1 i k) k
     have h2 : k * 104 ≤ 20 * 104 := Nat.mul_le_mul_right _ (by omega)
     rw [← hM, List.length_append]
     omega
    have hwk := sW (i := k) (by omega)
    try (simp)
    repeat (refine sR ?_; simp)
    refine sC ?_
    simp
    refine ⟨fun hltk => ?_, fun hgek => ?_⟩
    ·have c1 := larger_c t ht r.lg hr.lg (by omega) i k true ⟨by omega, by omega⟩ x.tok x.nt
     have x1 := lrgX_ok t r.lg i k true hlt0
     generalize hX1 : lrgX t r.lg i k true ⟨.full, x.tok, x.nt⟩ = y1 at *
     have c2 := larger_c t ht r.lg hr.lg (by omega) i k false ⟨by omega, by omega⟩ y1.tok y1.nt
     have x2 := lrgX_ok t r.lg i k false x1.adv.lt
     generalize hX2 : lrgX t r.lg i k false ⟨.full, y1.tok, y1.nt⟩ = y2 at *
     have hstk : L ++ flatN (appE t r.lg i) (k + 1) = M ++ appE t r.lg i k := by rw [← hM, flatN, List.append_assoc]
     have hAe : appE t r.lg i k = lrgL t r.lg i k true ++ lrgL t r.lg i k false := rfl
     have hAl := appE_len hnn hsm.1 i k
     have hbadK := fun y => hbadI k y hltk
     generalize hL3 : L ++ flatN (appE t r.lg i) (k + 1) = L3 at *
     have hAf := fun x (hx : x ∈ appE t r.lg i k) => appE_fit hnn hee hx
     generalize appE t r.lg i k = A at *
     generalize lrgL t r.lg i k true = A1 at *
     generalize lrgL t r.lg i k false = A2 at *
     have hA12 : A1.length + A2.length ≤ 104 := by rw [hAe, List.length_append] at hAl; exact hAl
     have htk1 := htk.adv x1.adv
     have htk2 := (htk1.adv x2.adv).swap
     try (simp)
     repeat (refine sR ?_; simp)
     refine Stop.of_d (c1) ?_
     simp
     refine Stop.of_d (c2) ?_
     simp
     refine ⟨⟨by omega, htk2.live⟩, ?_⟩
     have htk3 := htk2.app.tail.tail
     have hlt3 := lt_app y1.own x2.adv.lt
     generalize hT3 : upd (y1.own.kill y2.tok) y2.nt true = tok3 at *
     rw [← List.map_append, ← hAe]
     have hA3 : (A1.length : Int) + A2.length = (A.length : Nat) := by rw [hAe, List.length_append]; rfl
     simp only [hA3]
     refine sN ?_
     refine AL.loopT (fun y : Ix => stA3 t r i k A nb box y.i (M ++ A.take y.i) y.x) (fun y => y.i ≤ A.length ∧ okL (M ++ A.take y.i) = true ∧ TK tok nt y.x.tok y.x.nt [y.x.own] ∧ ∀ t, y.x.tok t = true → t < y.x.nt) (fun y => A.length - y.i) ⟨0, ⟨x.own, tok3, y2.nt + 1⟩⟩ ⟨Nat.zero_le _, by simpa using hok, htk3, hlt3⟩ (Weaks.mk htk3.le rfl (by simp [ToL, lk, lb_at, To.data]) (by simp [BoxL, lk])) ?_
     clear htk hlt0 hok htk1 htk2 htk3 hlt3 x1 x2 c1 c2
     rintro ⟨j, x⟩ S' ⟨hj, hok, htk, hlt0⟩ hS
     simp only [stA3] at hS hj hok htk hlt0
     subst hS
     obtain ⟨Q, hQ⟩ : ∃ Q, M ++ A.take j = Q := ⟨_, rfl⟩
     rw [hQ] at hok ⊢
     have hQl : Q.length ≤ 200000 := by
      rw [← hQ, List.length_append, List.length_take]
      omega
     have hwj := sW (i := j) (by omega)
     try (simp)
     repeat (refine sR ?_; simp)
     refine sC ?_
     simp
     refine ⟨fun hltj => ?_, fun hgej => ?_⟩
     ·have hmem : A[j] ∈ A := List.getElem_mem hltj
      have hgv := graphValid_c A[j] (hAf _ hmem)
      have hadd := okL_add hltj (by rw [hQ]; exact hok)
      have hbd := hbadK A[j] hmem
      have hstj : M ++ A.take (j + 1) = Q ++ [A[j]] := by rw [List.take_succ_eq_append_getElem hltj, ← List.append_assoc, hQ]
      try (simp [hltj])
      repeat (refine sR ?_; simp [hltj])
      refine Stop.of_d (hgv _ _) ?_
      simp
      try (simp)
      repeat (refine sR ?_; simp)
      by_cases e3 : validG A[j] = 0
      ·have hbf : badG A[j] = false := by simp [badG, e3]
       have hidn : (idM r.lg).nodes.length ≤ 1000000 := by simp [idM]; omega
       have hide : (idM r.lg).edges.length ≤ 1000000 := by simp [idM]; omega
       refine sC ?_
       simp [e3]
       generalize A[j] = a at *
       try (simp)
       repeat (refine sR ?_; simp)
       refine Stop.of_d (clone_c (idM r.lg).nodes hidn _ _) ?_
       simp
       refine Stop.of_d (clone_c (idM r.lg).edges hide _ _) ?_
       simp
       refine Stop.of_d (yes_c _ _) ?_
       simp
       try (simp)
       repeat (refine sR ?_; simp)
       have htk2 := (htk.full.app.full.app).tail.tail
       have hlt2 := lt_app .full (lt_app .full hlt0)
       refine ⟨⟨by omega, htk2.live⟩, ?_⟩
       try (simp [hwj])
       repeat (refine sR ?_; simp [hwj])
       refine sE ?_
       refine ⟨⟨j + 1, ⟨_, _, _⟩⟩, ⟨hltj, hadd hbf, htk2.app, lt_app _ hlt2⟩, by simp only; omega, ?_⟩
       simp only [hstj]
       refine Weaks.mk htk2.app.le rfl (by simp [ToL, lk, lb_at]) ?_
       simp [BoxL, lk]
       refine to_snoc ?_ _
       simp [exX, dsub_one, cdOf, Cd.cells_eq, Cd.kind, Cd.kids, Cd.m, Cd.g, Cd.sl, Cd.vars, Cd.te, slots, tests, conds, ints, AM.edges]
      ·have hbt : badG A[j] = true := by simp [badG, e3]
       have b3 : (validG A[j] != 0) = true := by simp [e3]
       rw [if_pos (hbd hbt)] at hN
       refine sC ?_
       simp [b3]
       try (simp)
       repeat (refine sR ?_; simp)
       refine sT ?_
       try simp only [AU]
       refine ⟨by simp, sF hbox htok htk.old htk.le ?_⟩
       simp [packA, ← hN, cdOf, Cd.kind, Cd.kids, Cd.m, Cd.g, Cd.sl, Cd.vars, Cd.te, conds, ints, AM.edges, slots, tests]
     ·refine sX ?_
      simp only [AU, ↓reduceIte]
      have hjA : j = A.length := by omega
      rw [hjA, List.take_length] at hQ
      try (simp [hwk])
      repeat (refine sR ?_; simp [hwk])
      refine sE ?_
      refine ⟨⟨k + 1, x⟩, ⟨hltk, ?_, htk, hlt0⟩, by simp only; omega, ?_⟩
      ·simp only [hL3, hstk, hQ, hok]
      ·simp only [hL3, hstk, hQ]
       exact Weaks.mk htk.le rfl (by simp [ToL, lk, lb_at]) (by simp [BoxL, lk])
    ·refine sX ?_
     simp only [AU, ↓reduceIte]
     have hkm : k = t.edges.length := by omega
     rw [hkm, ← hst] at hM
     try (simp [hw])
     repeat (refine sR ?_; simp [hw])
     refine sE ?_
     refine ⟨⟨i + 1, x⟩, ⟨hlt, ?_, htk, hlt0⟩, by simp only; omega, ?_⟩
     ·simp only [hL2, hM, hok]
     ·simp only [hL2, hM]
      exact Weaks.mk htk.le rfl (by simp [ToL, lk, lb_at]) (by simp [BoxL, lk])
  ·refine sX ?_
   simp only [AU, ↓reduceIte]
   have hin : i = r.lg.nodes.length := by omega
   have hAL : flatN (appI t r.lg r.k.nodes) i = appL t r := by rw [hin]; rfl
   have hAn : anyB badG (appL t r) = false := by
    rw [hAL] at hok
    simpa [okL] using hok
   have hALl : (appL t r).length ≤ 83200 := by
    have h1 := flatN_le (f := appI t r.lg r.k.nodes) (fun k => appI_len hnn hsm.1 hsm.2 _ k) r.lg.nodes.length
    have h2 : r.lg.nodes.length * 2080 ≤ 40 * 2080 := Nat.mul_le_mul_right _ (by omega)
    rw [appL]
    omega
   rw [hAL]
   rw [if_neg (by rw [hAn]; simp)] at hN
   clear hok
   have hlm : (List.map (exX r.lg) (appL t r)).length = (appL t r).length := List.length_map _
   have hfit : (appC t r).Fit := appC_fit (t := t) hnn hee hALl
   have hvc := validC_c r.lg (appC t r) hr.lg hfit
   have hC : appC t r = cdOf 3 ((appL t r).map (exX r.lg)) := rfl
   rw [hC] at hvc hN
   generalize hKK : (appL t r).map (exX r.lg) = KK at *
   by_cases e4 : (appL t r).length = 0
   ·have e4' : KK = [] := List.length_eq_zero_iff.1 (by rw [hlm]; exact e4)
    rw [if_pos e4] at hN
    try (simp [e4'])
    repeat (refine sR ?_; simp [e4'])
    refine sC ?_
    simp [e4']
    try (simp)
    repeat (refine sR ?_; simp)
    refine Stop.of_d (yes_c _ _) ?_
    simp
    refine sT ?_
    try simp only [AU]
    refine ⟨by simp, sF hbox htok htk.old htk.le ?_⟩
    simp [packA, ← hN, cdOf, Cd.kind, Cd.kids, Cd.m, Cd.g, Cd.sl, Cd.vars, Cd.te, conds, ints, AM.edges, slots, tests]
   ·have e4' : ¬ KK = [] := fun h => e4 (by rw [← hlm, h]; rfl)
    rw [if_neg e4] at hN
    try (simp [e4'])
    repeat (refine sR ?_; simp [e4'])
    refine sC ?_
    simp [e4']
    try (simp)
    repeat (refine sR ?_; simp)
    refine Stop.sub (args' := [r.lg.av, (cdOf 3 KK).av]) ⟨Sub.refl _, Sub.agg ⟨Sub.refl _, Sub.data _ _ _, Sub.nil _ _ _, Sub.nil _ _ _, Sub.nil _ _ _, Sub.nil _ _ _, Sub.nil _ _ _, Sub.refl _, Sub.nil _ _ _, trivial⟩, trivial⟩ ?_
    refine Stop.of_d (hvc _ _) ?_
    try (simp)
    repeat (refine sR ?_; simp)
    generalize validC r.lg (cdOf 3 KK) = V at *
    by_cases e5 : V = 0
    ·rw [if_neg (by simp [e5])] at hN
     refine sC ?_
     simp [e5]
     try (simp)
     repeat (refine sR ?_; simp)
     refine sT ?_
     try simp only [AU]
     refine ⟨by simp, sF hbox htok htk.old htk.le ?_⟩
     simp [packA, ← hN, cdOf, Cd.kind, Cd.kids, Cd.m, Cd.g, Cd.sl, Cd.vars, Cd.te, conds, ints, AM.edges, slots, tests]
    ·rw [if_pos e5] at hN
     have b5 : (V != 0) = true := by simp [e5]
     refine sC ?_
     simp [b5]
     try (simp)
     repeat (refine sR ?_; simp)
     refine sT ?_
     try simp only [AU]
     refine ⟨by simp, sF hbox htok htk.old htk.le ?_⟩
     simp [packA, ← hN, cdOf, Cd.kind, Cd.kids, Cd.m, Cd.g, Cd.sl, Cd.vars, Cd.te, conds, ints, AM.edges, slots, tests]
 ·rw [if_pos e1] at hN
  have b1 : (E != 0) = true := by simp [e1]
  refine sC ?_
  simp [b1]
  try (simp)
  repeat (refine sR ?_; simp)
  refine sT ?_
  try simp only [AU]
  refine ⟨by simp, sF hbox htok (fun _ h => h) (Nat.le_refl _) ?_⟩
  simp [packA, ← hN, cdOf, Cd.kind, Cd.kids, Cd.m, Cd.g, Cd.sl, Cd.vars, Cd.te, conds, ints, AM.edges, slots, tests]
end Go.AM
namespace Go.AM
open Go Go.Proofs
def Ac3.ed (x : Ac3) (s : Nat) : Ac3 := ⟨.tok (x.nt + 1), upd (x.own.kill (upd (upd x.tok s false) x.nt true)) (x.nt + 1) true, x.nt + 2⟩
def Ac3.nd (x : Ac3) (s : Nat) : Ac3 := ⟨x.own, upd (upd x.tok s false) x.nt true, x.nt + 1⟩
end Go.AM
namespace Go.AM
open Go Go.Proofs
def delF (keep : List Int) (i : Nat) : List Int := if (i : Int) ∈ keep then [] else [(i : Int)]
def delL (keep : List Int) (n : Nat) : List Int := flatN (delF keep) n
theorem delF_len (keep : List Int) (i : Nat) : (delF keep i).length ≤ 1 := by
 unfold delF
 split <;> simp
theorem mem_delL {keep : List Int} {n : Nat} {x : Int} (h : x ∈ delL keep n) : 0 ≤ x ∧ x < n := by
 obtain ⟨i, hi, h⟩ := mem_flatN.1 h
 unfold delF at h
 split at h
 ·cases h
 ·rw [List.mem_singleton] at h; omega
theorem indexI_lt0 (l : List Int) (x : Int) : indexI l x < 0 ↔ x ∉ l := by
 constructor
 ·intro h hm
  have := indexI_in hm
  omega
 ·intro h
  rw [indexI_none h]
  decide
def stDl (n : Nat) (keep : List Int) (nb : Nat) (box : Nat → Option (List (List AV))) (i : Nat) (own : Own) (tok : Nat → Bool) (nt : Nat) : AState :=
 ⟨tl [(5, I i), (4, .osl 1 (rI (delL keep i)) own), (3, .d (ints (backL keep n)))], lb nb box [], tok, nt⟩
theorem deleted34_c (r : Ru) (hk : r.k.nodes.Nodup) (hl : r.k.nodes.length ≤ 1000000) (hn : r.lg.nodes.length ≤ 1000) (tok : Nat → Bool) (nt : Nat) : DCall Tryz.prog 64 [r.av] tok nt (.d (ints (delL r.k.nodes r.lg.nodes.length))) tok nt := by
 intro box nb
 have hb := backOK r.k.nodes r.lg.nodes.length hl (by omega) hk
 have hbl := backL_len r.k.nodes r.lg.nodes.length
 refine sB Tryz.func64 Tryz.ntmps64 ?_
 intro hbox htok
 simp only at hbox htok
 apply AL.start
 try (simp)
 repeat (refine sR ?_; simp)
 refine Stop.of_d (hb _ _) ?_
 simp
 try (simp)
 repeat (refine sR ?_; simp)
 refine sN ?_
 refine AL.loopT (fun y : Acc => stDl r.lg.nodes.length r.k.nodes nb box y.i y.own y.tok y.nt) (fun y => y.i ≤ r.lg.nodes.length ∧ TK tok nt y.tok y.nt [y.own]) (fun y => r.lg.nodes.length - y.i) ⟨0, .full, tok, nt⟩ ⟨Nat.zero_le _, (TK.start htok).full⟩ (Weaks.mk (Nat.le_refl _) rfl (by simp [ToL, lk, lb_at, delL, flatN]) trivial) ?_
 rintro ⟨i, own, tok', nt'⟩ S' ⟨hi, htk⟩ hS
 simp only [stDl] at hS hi htk
 subst hS
 have hw := sW (i := i) (by omega)
 have hlen := flatN_len (delF_len r.k.nodes) i
 have hst : delL r.k.nodes (i + 1) = delL r.k.nodes i ++ delF r.k.nodes i := rfl
 try (simp [hbl])
 repeat (refine sR ?_; simp [hbl])
 refine sC ?_
 simp
 refine ⟨fun hlt => ?_, fun hge => ?_⟩
 ·have hbi : i < (backL r.k.nodes r.lg.nodes.length).length := by omega
  have hgd : (backL r.k.nodes r.lg.nodes.length)[i] = indexI r.k.nodes i := by
   have := backL_getD (l := r.k.nodes) hlt
   simpa [hbi] using this
  have hl0 := indexI_lt0 r.k.nodes i
  by_cases hm : (i : Int) ∈ r.k.nodes
  ·have h0 : ¬ indexI r.k.nodes i < 0 := fun h => (hl0.1 h) hm
   rw [show delF r.k.nodes i = [] from if_pos hm, List.append_nil] at hst
   try (simp [hbi, hgd, h0])
   repeat (refine sR ?_; simp [hbi, hgd, h0])
   refine sC ?_
   simp [h0]
   try (simp [hw])
   repeat (refine sR ?_; simp [hw])
   refine sE ?_
   refine ⟨⟨i + 1, own, tok', nt'⟩, ⟨hlt, htk⟩, by simp only; omega, ?_⟩
   simp only [stDl, hst]
   exact Weaks.mk htk.le rfl (by simp [ToL, lk, lb_at]) trivial
  ·have h0 : indexI r.k.nodes i < 0 := hl0.2 hm
   rw [show delF r.k.nodes i = [(i : Int)] from if_neg hm] at hst
   try (simp [hbi, hgd, h0])
   repeat (refine sR ?_; simp [hbi, hgd, h0])
   refine sC ?_
   simp [h0]
   try (simp)
   repeat (refine sR ?_; simp)
   refine ⟨⟨by rw [delL]; omega, htk.live⟩, ?_⟩
   try (simp [hw])
   repeat (refine sR ?_; simp [hw])
   refine sE ?_
   refine ⟨⟨i + 1, _, _, _⟩, ⟨hlt, htk.app⟩, by simp only; omega, ?_⟩
   simp only [stDl, hst]
   exact Weaks.mk htk.app.le rfl (by simp [ToL, lk, lb_at, rI]) trivial
 ·refine sX ?_
  simp only [AU, ↓reduceIte]
  have : i = r.lg.nodes.length := by omega
  subst this
  try (simp)
  repeat (refine sR ?_; simp)
  refine sT ?_
  try simp only [AU]
  refine ⟨by simp, sF hbox htok htk.old htk.le ?_⟩
  simp [packA, ints]
end Go.AM
namespace Go.AM
open Go Go.Proofs
end Go.AM
namespace Go.AM
open Go Go.Proofs
def zr (n : Nat) : Gr := ⟨List.replicate n 0, []⟩
def dropR : Ru := ⟨eB, zr 2, [], 0, [], zr 1, [], 0, [], ⟨[0], []⟩, ⟨[0], []⟩, true, cdOf 0 []⟩
def awC : Cd := .mk 5 [cdOf 1 []] ⟨[0], []⟩ (zr 2) [] 0 []
def awT : Ty := ⟨[⟨⟨#[65]⟩, -1, false, []⟩], [⟨⟨#[101]⟩, 0, 0, 0, -1, 0, -1⟩]⟩
theorem aw_left : (leftR dropR awC).2 = 0 ∧ (leftR dropR awC).1.kind = 5 ∧ (leftR dropR awC).1.g.nodes.length = 3 := by decide +kernel
theorem aw_app : (appR awT dropR).2 = 0 ∧ (appR awT dropR).1.kind = 3 ∧ (appR awT dropR).1.kids.length = 5 := by decide +kernel
theorem to_frz0 {p q : Nat → Prop} {k n : Nat} : To p q (some (k, 1, List.replicate n [D.raw (.int .i64 0)])) (.msl k 0 n 1) (.d (ints (List.replicate n 0))) := by
 have h := To.frz (p := p) (q := q) (fz := some (k, 1, List.replicate n [D.raw (.int .i64 0)])) (k := k) (sz := 1) (es := List.replicate n [D.raw (.int .i64 0)]) rfl
 simp [ints] at h ⊢
theorem Sub.ds {sz : Nat} {es : List (List D)} {o : Own} {y : D} (h : DSub (.sl sz es) y) : Sub (.osl sz es o) (.d y) := fun G w v r => by
 cases r.asD with
 | d r1 => exact .d (r1.dsub h)
theorem nodes34_c (n : Nat) (hn : n ≤ 10) (tok : Nat → Bool) (nt : Nat) : DCall Tryz.prog 33 [I n] tok nt (zr n).av tok nt := by
 intro box nb
 refine sB Tryz.func33 Tryz.ntmps33 ?_
 intro hbox htok
 simp only at hbox htok
 apply AL.start
 try (simp)
 repeat (refine sR ?_; simp)
 refine ⟨by omega, ?_⟩
 refine AL.weak (Weaks.frz (l' := [(2, .ptr (nb + 2) 0 0)]) (loc' := [(2, [[.d (ints (List.replicate n 0)), nilS]])]) 4 1 (rI (List.replicate n 0)) (Nat.le_refl _) rfl (by simp [lk, rowsI_eq]) (by simp [lk]) (by simp) (by simp [ToL, lk, lb_at]) (by simp [BoxL, lk]; exact to_frz0)) ?_
 refine sT ?_
 try simp only [AU]
 refine ⟨by simp, sF hbox htok (fun _ h => h) (Nat.le_refl _) ?_⟩
 simp [packA, zr, AM.edges]
theorem drop34_c (tok : Nat → Bool) (nt : Nat) : DCall Tryz.prog 34 [] tok nt dropR.av tok nt := by
 intro box nb
 refine sB Tryz.func34 Tryz.ntmps34 ?_
 intro hbox htok
 simp only at hbox htok
 apply AL.start
 try (simp)
 repeat (refine sR ?_; simp)
 refine Stop.of_d (nodes34_c 2 (by omega) _ _) ?_
 simp
 refine Stop.of_d (nodes34_c 1 (by omega) _ _) ?_
 simp
 try (simp)
 repeat (refine sR ?_; simp)
 refine sT ?_
 try simp only [AU]
 refine ⟨by simp, sF hbox htok (fun _ h => h) (Nat.le_refl _) ?_⟩
 simp [packA, dropR, zr, AM.edges, ints, slots, tests, cdOf, Cd.kind, Cd.kids, Cd.m, Cd.g, Cd.sl, Cd.vars, Cd.te, conds, rI, rE]
theorem dropR_fit : dropR.Fit := ⟨⟨by simp [dropR, zr], by simp [dropR, zr]⟩, ⟨by simp [dropR, zr], by simp [dropR, zr]⟩, ⟨by simp [dropR], by simp [dropR]⟩, ⟨by simp [dropR], by simp [dropR]⟩, by rw [bigN_eq]; simp [dropR], by rw [bigN_eq]; simp [dropR], by rw [bigN_eq]; simp [dropR], by rw [bigN_eq]; simp [dropR]⟩
theorem awC_fit : awC.Fit := .mk (by rw [kidN_eq]; simp [awC, Cd.kids]) ⟨by simp [awC, Cd.m], by simp [awC, Cd.m]⟩ ⟨by simp [awC, Cd.g, zr], by simp [awC, Cd.g, zr]⟩ (by rw [bigN_eq]; simp [awC, Cd.sl]) (by rw [bigN_eq]; simp [awC, Cd.te]) fun x hx => by
 have : x = cdOf 1 [] := by simpa [awC, Cd.kids] using hx
 subst this
 exact cdOf_fit (by rw [kidN_eq]; simp) (by simp)
theorem awT_fit : awT.Fit := ⟨by decide, by decide, by decide, by decide, by simp [awT]⟩
set_option maxRecDepth 100000 in
theorem awake34_c (tok : Nat → Bool) (nt : Nat) : DCall Tryz.prog 11 [] tok nt (B true) tok nt := by
 intro box nb
 have h1 := leftP_c dropR awC dropR_fit awC_fit
 have h2 := applicable_c awT awT_fit dropR dropR_fit
 obtain ⟨s1, s2, s3⟩ := aw_left
 obtain ⟨u1, u2, u3⟩ := aw_app
 generalize leftR dropR awC = L at *
 generalize appR awT dropR = A at *
 refine sB Tryz.func11 Tryz.ntmps11 ?_
 intro hbox htok
 simp only at hbox htok
 apply AL.start
 try (simp)
 repeat (refine sR ?_; simp)
 refine Stop.of_d (nodes34_c 2 (by omega) _ _) ?_
 simp
 try (simp)
 repeat (refine sR ?_; simp)
 refine Stop.of_d (drop34_c _ _) ?_
 simp
 refine Stop.sub (args' := [dropR.av, awC.av]) ⟨Sub.refl _, Sub.agg ⟨Sub.refl _, Sub.ds (dsub_one (by simp [cdOf, Cd.cells_eq, Cd.kind, Cd.kids, Cd.m, Cd.g, Cd.sl, Cd.vars, Cd.te, slots, tests, conds, ints, AM.edges])), Sub.data _ _ _, Sub.nil _ _ _, Sub.refl _, Sub.refl _, Sub.nil _ _ _, Sub.refl _, Sub.nil _ _ _, trivial⟩, trivial⟩ ?_
 refine Stop.of_d (h1 _ _) ?_
 simp
 try (simp)
 repeat (refine sR ?_; simp)
 refine Stop.of_d (drop34_c _ _) ?_
 simp
 refine Stop.sub (args' := [awT.av, dropR.av]) ⟨Sub.agg ⟨Sub.ds (dsub_one (by simp [atts])), Sub.ds (dsub_one (by simp)), trivial⟩, Sub.refl _, trivial⟩ ?_
 refine Stop.of_d (h2 _ _) ?_
 simp
 try (simp [s1, s2, s3, u1, u2, u3])
 repeat (refine sR ?_; simp [s1, s2, s3, u1, u2, u3])
 refine sT ?_
 try simp only [AU]
 refine ⟨by simp, sF hbox htok (fun _ h => h) (Nat.le_refl _) ?_⟩
 simp [packA]
end Go.AM
namespace Go.AM
open Go Go.Proofs
def RS (n : Int) (s t : St2) : Prop := (s.2 = 0 ∧ t.2 = 0 ∧ s.1 + t.1 = 2000 ∧ 0 ≤ s.1 ∧ s.1 ≤ n) ∨ (s.2 = 3 ∧ t.2 = 3)
theorem RS.up {n m : Int} {s t : St2} (h : RS n s t) (hnm : n ≤ m) : RS m s t := by
 rcases h with ⟨h1, h2, h3, h4, h5⟩ | h
 ·exact .inl ⟨h1, h2, h3, h4, by omega⟩
 ·exact .inr h
theorem RS.zero {n : Int} {s t : St2} (h : RS n s t) (h0 : s.2 = 0) : t.2 = 0 := by
 rcases h with h | h
 ·exact h.2.1
 ·rw [h.1] at h0; cases h0
end Go.AM
namespace Go.AM
open Go Go.Proofs
theorem nil_fb (k : Int) : (cdOf k []).Fit ∧ (cdOf k []).Bare := ⟨cdOf_fit (by rw [kidN_eq]; simp) (by simp), bare_cdOf (by simp)⟩
end Go.AM
namespace Go.AM
open Go Go.Proofs
theorem fewM_fit2 {m : Mo} (h : fewM m 140 = true) : m.Fit := by
 simp [fewM] at h
 exact ⟨by omega, by omega⟩
theorem fewR_fit {r : Ru} (hb : r.Big) (h : fewR r = true) : r.Fit := by
 simp only [fewR, Bool.and_eq_true] at h
 exact ⟨fewG_fit h.1.1.1, fewG_fit h.1.1.2, fewM_fit2 h.1.2, fewM_fit2 h.2, hb.ls, hb.lt, hb.rs, hb.rt⟩
end Go.AM
namespace Go.AM
open Go Go.ChangeShapes
variable {P : Program}
def Rd (w : World) (cs : List Value) (ds : List D) : Prop := cs.length = ds.length ∧ ∀ i (h1 : i < cs.length) (h2 : i < ds.length), RVd w.cell? (fun _ => True) ds[i] cs[i]
theorem Rd.append {w : World} {cs cs' : List Value} {ds ds' : List D} (h : Rd w cs ds) (k : Rd w cs' ds') : Rd w (cs ++ cs') (ds ++ ds') := by
 refine ⟨by simp [h.1, k.1], fun i h1 h2 => ?_⟩
 by_cases hi : i < cs.length
 ·rw [List.getElem_append_left hi, List.getElem_append_left (by rw [← h.1]; exact hi)]
  exact h.2 i hi _
 ·have hl := h.1
  rw [List.getElem_append_right (by omega), List.getElem_append_right (by omega)]
  have := k.2 (i - cs.length) (by simp at h1; omega) (by have := k.1; simp at h1; omega)
  simpa [hl] using this
theorem Rd.one {w : World} {c : Value} {d : D} (h : RVd w.cell? (fun _ => True) d c) : Rd w [c] [d] := ⟨rfl, fun i h1 h2 => by
 have : i = 0 := by simpa using h1
 subst this
 exact h⟩
def Light {H : Type} (P : Program) (T : TypeId) (d : DataW H) : Prop := (d.weights P T).all (· ≤ reachBytes) = true
structure Rdr (P : Program) (T : TypeId) (α : Type) where
 enc : α → List D
 ok : α → Prop
 len : ∀ x, (enc x).length = P.cellsOf T
 sound : ∀ {H : Type} (e : TypeId × Value → H) (w : World) (base : Nat) (spare : Nat → Bool) (held : Bool) (fuel : Nat) (cs : List Value) (x : DataW H × List MemPlace),
  DataW.trod e P w base spare held fuel T cs = some x → ∃ y, Rd w cs (enc y) ∧ (Light P T x.1 → ok y)
def Rdr.int {T : TypeId} {k : IntKind} (h : P.underlying T = some (.int k)) (hc : P.cellsOf T = 1) : Rdr P T Int where
 enc n := [.raw (.int k n)]
 ok n := (Lit.int k n).wf = true
 len _ := by simp [hc]
 sound e w base spare held fuel cs x hx := by
  cases fuel with
  | zero => simp [DataW.trod] at hx
  | succ n =>
   unfold DataW.trod at hx
   rw [h] at hx
   split at hx <;> simp_all
   rename_i k' n' _
   exact ⟨n', Rd.one (.raw rfl), fun _ => hx.1.2⟩
theorem cells_spec {w : World} {base : Nat} {a : Addr} {n : Nat} {l : List Value} (h : w.cells? base a n = some l) : l.length = n ∧ ∀ i (hi : i < l.length), w.cell? (a.add i) = some l[i] := by
 unfold World.cells? at h
 split at h
 ·have h1 : l.length = n := by have := mapM_some_length h; simpa using this
  refine ⟨h1, fun i hi => ?_⟩
  have hin : i < n := by omega
  have := mapM_some_get h i i (by simp [hin])
  rw [this]
  exact List.getElem?_eq_getElem hi
 ·cases h
theorem light_slice {H : Type} {T E : TypeId} (h : P.underlying T = some (.slice E)) {elems rest : List (DataW H)} (hl : Light P T (.slice elems rest)) : elems.length * P.bytesOf E ≤ reachBytes ∧ ∀ d ∈ elems, Light P E d := by
 unfold Light at hl ⊢
 simp only [DataW.weights, h, List.all_cons, List.all_append, Bool.and_eq_true, decide_eq_true_eq] at hl
 refine ⟨Nat.le_trans (Nat.mul_le_mul_right _ (Nat.le_add_right _ _)) hl.1, ?_⟩
 have key : ∀ l : List (DataW H), (DataW.weightsAll P E l).all (· ≤ reachBytes) = true → ∀ d ∈ l, (d.weights P E).all (· ≤ reachBytes) = true := by
  intro l
  induction l with
  | nil => intro _ d hd; simp at hd
  | cons x l ih =>
   intro hx d hd
   simp only [DataW.weightsAll, List.all_append, Bool.and_eq_true] at hx
   rcases List.mem_cons.1 hd with rfl | hd
   ·exact hx.1
   ·exact ih hx.2 d hd
 exact key elems hl.2.1
def Rdr.slice {T E : TypeId} {α : Type} (r : Rdr P E α) (h : P.underlying T = some (.slice E)) (hc : P.cellsOf T = 1) : Rdr P T (List α) where
 enc l := [.sl (P.cellsOf E) (l.map r.enc)]
 ok l := (∀ x ∈ l, r.ok x) ∧ l.length * P.bytesOf E ≤ reachBytes
 len _ := by simp [hc]
 sound e w base spare held fuel cs x hx := by
  rcases DataW.trod_slice h hx with ⟨rfl, rfl⟩ | ⟨a, len, cap, elems, rest, n, rfl, rfl, rfl, hb, hl, hm, hel, hat, _⟩
  ·exact ⟨[], Rd.one (.sl (es := []) (fun _ _ => default) (Nat.le_refl _) (by decide) (by simp) (by simp) (by simp) (by simp)), fun _ => ⟨by simp, by simp⟩⟩
  ·have key : ∀ i (hi : i < elems.length), ∃ cs y, cs.length = P.cellsOf E ∧ (∀ j (hj : j < cs.length), w.cell? (a.add (i * P.cellsOf E + j)) = some cs[j]) ∧ Rd w cs (r.enc y) ∧ (Light P E elems[i].1 → r.ok y) := by
    intro i hi
    have h1 := hat i (by omega)
    have h2 : elems[i]? = some elems[i] := List.getElem?_eq_getElem hi
    rw [h2, Option.bind_eq_some_iff] at h1
    obtain ⟨cs, hcs, htr⟩ := h1
    obtain ⟨hcl, hcc⟩ := cells_spec hcs
    obtain ⟨y, hy, hok⟩ := r.sound e w base spare held n cs _ htr
    refine ⟨cs, y, hcl, fun j hj => ?_, hy, hok⟩
    rw [← Addr.add_add]
    exact hcc j hj
   have pick : ∀ m, m ≤ elems.length → ∃ ys : List α, ys.length = m ∧ (∀ i (hi : i < ys.length) (hi2 : i < elems.length), ∃ cs, cs.length = P.cellsOf E ∧ (∀ j (hj : j < cs.length), w.cell? (a.add (i * P.cellsOf E + j)) = some cs[j]) ∧ Rd w cs (r.enc ys[i]) ∧ (Light P E elems[i].1 → r.ok ys[i])) := by
    intro m
    induction m with
    | zero => intro _; exact ⟨[], rfl, fun i hi => by simp at hi⟩
    | succ m ih =>
     intro hm'
     obtain ⟨ys, hys, hall⟩ := ih (by omega)
     obtain ⟨cs, y, g1, g2, g3, g4⟩ := key m (by omega)
     refine ⟨ys ++ [y], by simp [hys], fun i hi hi2 => ?_⟩
     by_cases him : i < ys.length
     ·rw [List.getElem_append_left him]
      exact hall i him hi2
     ·have : i = m := by simp at hi; omega
      subst this
      have e1 : (ys ++ [y])[i] = y := by
       rw [List.getElem_append_right (by omega)]
       simp
      rw [e1]
      exact ⟨cs, g1, g2, g3, g4⟩
   obtain ⟨ys, hys, hall⟩ := pick elems.length (Nat.le_refl _)
   refine ⟨ys, Rd.one ?_, fun hli => ?_⟩
   ·have hlen : len = ys.length := by omega
    subst hlen
    have hml : ys.length = (ys.map r.enc).length := by simp
    rw [hml]
    refine .sl (fun i j => (w.cell? (a.add (i * P.cellsOf E + j))).getD default) (by simpa using hl) hm (fun e he => ?_) (fun _ => ⟨a, rfl⟩) (fun a' ha' i j hi hj => ?_) (fun i j hi hj => ?_)
    ·obtain ⟨y, _, rfl⟩ := List.mem_map.1 he
     exact r.len y
    ·cases ha'
     obtain ⟨cs, g1, g2, _⟩ := hall i (by simpa using hi) (by simp at hi; omega)
     rw [g2 j (by omega)]
     exact ⟨trivial, rfl⟩
    ·obtain ⟨cs, g1, g2, g3, _⟩ := hall i (by simpa using hi) (by simp at hi; omega)
     simp only [List.getElem_map] at hj ⊢
     have hjc : j < cs.length := by rw [g3.1]; exact hj
     rw [g2 j hjc]
     exact g3.2 j hjc hj
   ·obtain ⟨w1, w2⟩ := light_slice h hli
    refine ⟨fun y hy => ?_, by simpa [hys] using w1⟩
    obtain ⟨i, hi, rfl⟩ := List.getElem_of_mem hy
    obtain ⟨_, _, _, _, h4⟩ := hall i hi (by omega)
    exact h4 (w2 _ (List.mem_map.2 ⟨_, List.getElem_mem _, rfl⟩))
def Rdr.map {T : TypeId} {α β : Type} (r : Rdr P T α) (f : α → β) (enc : β → List D) (ok : β → Prop) (he : ∀ x, enc (f x) = r.enc x) (hok : ∀ x, r.ok x → ok (f x)) (hl : ∀ y, (enc y).length = P.cellsOf T) : Rdr P T β where
 enc := enc
 ok := ok
 len := hl
 sound e w base spare held fuel cs x hx := by
  obtain ⟨y, h1, h2⟩ := r.sound e w base spare held fuel cs x hx
  exact ⟨f y, by rw [he]; exact h1, fun hl => hok y (h2 hl)⟩
def Rdr.sliceN {T E : TypeId} {α : Type} (r : Rdr P E α) (n : Nat) (h : P.underlying T = some (.slice E)) (hc : P.cellsOf T = 1) (hn : P.cellsOf E = n) : Rdr P T (List α) where
 enc l := [.sl n (l.map r.enc)]
 ok l := (∀ x ∈ l, r.ok x) ∧ l.length * P.bytesOf E ≤ reachBytes
 len _ := by simp [hc]
 sound := by
  subst hn
  exact (Rdr.slice r h hc).sound
theorem list2 {α : Type} {l : List α} (h : l.length = 2) : l = [l[0]'(by omega), l[1]'(by omega)] := by
 match l, h with
 | [p, q], _ => rfl
theorem list3 {α : Type} {l : List α} (h : l.length = 3) : l = [l[0]'(by omega), l[1]'(by omega), l[2]'(by omega)] := by
 match l, h with
 | [p, q, r], _ => rfl
def Rdr.struct2 {T A B : TypeId} {α β : Type} (r : Rdr P A α) (s : Rdr P B β) {f0 f1 : Field} (h : P.underlying T = some (.struct #[f0, f1])) (hA : f0.type = A) (hB : f1.type = B) (h0 : f0.offset = 0) (h1 : f1.offset = P.cellsOf A)
  (hc : P.cellsOf T = P.cellsOf A + P.cellsOf B) : Rdr P T (α × β) where
 enc x := r.enc x.1 ++ s.enc x.2
 ok x := r.ok x.1 ∧ s.ok x.2
 len x := by simp [r.len, s.len, hc]
 sound e w base spare held fuel cs x hx := by
  obtain ⟨xs, n, rfl, rfl, hl, hxs, hat⟩ := DataW.trod_struct h hx
  have hxs' : xs.length = 2 := hxs
  have g0 := hat 0 f0 rfl
  have g1 := hat 1 f1 rfl
  have e0 : xs[0]? = some (xs[0]'(by omega)) := List.getElem?_eq_getElem (by omega)
  have e1 : xs[1]? = some (xs[1]'(by omega)) := List.getElem?_eq_getElem (by omega)
  rw [e0, h0, hA] at g0
  rw [e1, h1, hB] at g1
  obtain ⟨y, k1, k2⟩ := r.sound e w base spare held n _ _ g0
  obtain ⟨z, m1, m2⟩ := s.sound e w base spare held n _ _ g1
  refine ⟨(y, z), ?_, fun hli => ?_⟩
  rotate_left
  ·unfold Light at hli k2 m2
   have e2 : xs = [xs[0]'(by omega), xs[1]'(by omega)] := list2 hxs'
   rw [e2] at hli
   simp only [List.map_cons, List.map_nil, DataW.weights, h, DataW.weightsEach, hA, hB, List.all_append, Bool.and_eq_true] at hli
   exact ⟨k2 hli.1, m2 hli.2.1⟩
  have hcs : cs = (cs.drop 0).take (P.cellsOf A) ++ (cs.drop (P.cellsOf A)).take (P.cellsOf B) := by
   have : (cs.drop (P.cellsOf A)).take (P.cellsOf B) = cs.drop (P.cellsOf A) := List.take_of_length_le (by simp; omega)
   rw [this, List.drop_zero, List.take_append_drop]
  rw [hcs]
  exact k1.append m1
def Rdr.struct3 {T A B C : TypeId} {α β γ : Type} (r : Rdr P A α) (s : Rdr P B β) (t : Rdr P C γ) {f0 f1 f2 : Field} (h : P.underlying T = some (.struct #[f0, f1, f2])) (hA : f0.type = A) (hB : f1.type = B) (hC : f2.type = C)
  (h0 : f0.offset = 0) (h1 : f1.offset = P.cellsOf A) (h2 : f2.offset = P.cellsOf A + P.cellsOf B) (hc : P.cellsOf T = P.cellsOf A + P.cellsOf B + P.cellsOf C) : Rdr P T (α × β × γ) where
 enc x := r.enc x.1 ++ (s.enc x.2.1 ++ t.enc x.2.2)
 ok x := r.ok x.1 ∧ s.ok x.2.1 ∧ t.ok x.2.2
 len x := by simp [r.len, s.len, t.len, hc]; omega
 sound e w base spare held fuel cs x hx := by
  obtain ⟨xs, n, rfl, rfl, hl, hxs, hat⟩ := DataW.trod_struct h hx
  have hxs' : xs.length = 3 := hxs
  have g0 := hat 0 f0 rfl
  have g1 := hat 1 f1 rfl
  have g2 := hat 2 f2 rfl
  have e0 : xs[0]? = some (xs[0]'(by omega)) := List.getElem?_eq_getElem (by omega)
  have e1 : xs[1]? = some (xs[1]'(by omega)) := List.getElem?_eq_getElem (by omega)
  have e2 : xs[2]? = some (xs[2]'(by omega)) := List.getElem?_eq_getElem (by omega)
  rw [e0, h0, hA] at g0
  rw [e1, h1, hB] at g1
  rw [e2, h2, hC] at g2
  obtain ⟨y, k1, k2⟩ := r.sound e w base spare held n _ _ g0
  obtain ⟨z, m1, m2⟩ := s.sound e w base spare held n _ _ g1
  obtain ⟨q, p1, p2⟩ := t.sound e w base spare held n _ _ g2
  refine ⟨(y, z, q), ?_, fun hli => ?_⟩
  rotate_left
  ·unfold Light at hli k2 m2 p2
   have e2 : xs = [xs[0]'(by omega), xs[1]'(by omega), xs[2]'(by omega)] := list3 hxs'
   rw [e2] at hli
   simp only [List.map_cons, List.map_nil, DataW.weights, h, DataW.weightsEach, hA, hB, hC, List.all_append, Bool.and_eq_true] at hli
   exact ⟨k2 hli.1, m2 hli.2.1, p2 hli.2.2.1⟩
  have hcs : cs = (cs.drop 0).take (P.cellsOf A) ++ ((cs.drop (P.cellsOf A)).take (P.cellsOf B) ++ (cs.drop (P.cellsOf A + P.cellsOf B)).take (P.cellsOf C)) := by
   have : (cs.drop (P.cellsOf A + P.cellsOf B)).take (P.cellsOf C) = cs.drop (P.cellsOf A + P.cellsOf B) := List.take_of_length_le (by simp; omega)
   rw [this, ← List.drop_drop, List.take_append_drop, List.drop_zero, List.take_append_drop]
  rw [hcs]
  exact k1.append (m1.append p1)
def G0 : Gh := ⟨fun _ => none, fun _ => none, fun _ => .whole, 0⟩
def m0 : AMem := ⟨fun _ => none, 0, fun _ => false, 0⟩
theorem G0_ps (a : Addr) : G0.ps a := trivial
theorem relM_start (W : World) : RelM G0 m0 W := by
 constructor
 case box => intro k rows b sz h; cases h
 case nobox => intro k _; rfl
 case inj => intro k k' b sz sz' h; cases h
 case nb => intro k _; rfl
 case nt => rfl
 case toks => intro t h; cases h
 case tokb => intro t g h; cases h
 case tinj => intro t t' g h; cases h
 case tnt => intro t x h; cases h
 case fresh => intro b _; rfl
theorem RVd.start {W : World} {d : D} {v : Value} (h : RVd W.cell? (fun _ => True) d v) : RVd W.cell? G0.ps d v := h.mono fun a u _ hc => ⟨G0_ps a, hc⟩
theorem Rdr.agg {T : TypeId} {α : Type} (r : Rdr P T α) {W : World} {base base' : Nat} {sp : Nat → Bool} {held : Bool} {H : Type} {enc : TypeId × Value → H} {v : Value} {d : DataW H} {p : List MemPlace}
  (hs : aggT P T = some true) (hv : Value.okWide P W .any base T v) (h : DataW.Trod enc P W base' sp held T v d p) (hli : Light P T d) : ∃ y, r.ok y ∧ RV G0 W (.agg ((r.enc y).map .d)) v := by
 have hcs : ∃ cs, v = .agg cs := by
  unfold aggT at hs
  unfold Value.okWide at hv
  cases hu : P.underlying T with
  | none => rw [hu] at hs; simp at hs
  | some u =>
   rw [hu] at hs hv
   cases u <;> simp at hs hv <;> exact ⟨_, hv.choose_spec.1⟩
 obtain ⟨cs, rfl⟩ := hcs
 obtain ⟨fuel, h⟩ := h
 obtain ⟨y, ⟨h1, h2⟩, hok⟩ := r.sound enc W base' sp held fuel _ _ h
 refine ⟨y, hok hli, ?_⟩
 simp only [Value.cells] at h1 h2
 have := RV.agg (G := G0) (w := W) (cs := (r.enc y).map .d) (vs := cs.toList) (by simp [h1]) (fun i g1 g2 => by
  simp only [List.getElem_map]
  exact .d (h2 i g2 (by simpa using g1)).start) (fun v hv => by
  obtain ⟨i, hi, rfl⟩ := List.getElem_of_mem hv
  exact (h2 i hi (by omega)).one)
 simpa using this
theorem Rdr.cell {T : TypeId} {α : Type} (r : Rdr P T α) {W : World} {base base' : Nat} {sp : Nat → Bool} {held : Bool} {H : Type} {enc : TypeId × Value → H} {v : Value} {d : DataW H} {p : List MemPlace} (f : α → D)
  (hs : aggT P T = some false) (hf : ∀ y, r.enc y = [f y]) (hv : Value.okWide P W .any base T v) (h : DataW.Trod enc P W base' sp held T v d p) (hli : Light P T d) : ∃ y, r.ok y ∧ RV G0 W (.d (f y)) v := by
 obtain ⟨fuel, h⟩ := h
 obtain ⟨y, ⟨h1, h2⟩, hok⟩ := r.sound enc W base' sp held fuel _ _ h
 refine ⟨y, hok hli, ?_⟩
 rw [hf] at h1
 have hcs : v.cells.toList = [v] := by
  cases v with
  | agg cs =>
   exfalso
   unfold aggT at hs
   unfold Value.okWide Cell.okWide Cell.ok at hv
   cases hu : P.underlying T with
   | none => rw [hu] at hs; simp at hs
   | some u =>
    rw [hu] at hs hv
    cases u <;> simp_all
  | _ => rfl
 have := h2 0 (by rw [h1]; simp) (by rw [hf]; simp)
 simp only [hf, List.getElem_cons_zero] at this
 have e : v.cells.toList[0]'(by rw [h1]; simp) = v := by simp [hcs]
 rw [e] at this
 exact .d this.start
theorem light_arg {H : Type} {ts : List TypeId} {ds : List (DataW H)} (hz : (DataW.weightsEach P ts ds).all (· ≤ reachBytes) = true) {j : Nat} {T : TypeId} {d : DataW H} (ht : ts[j]? = some T) (hd : ds[j]? = some d) : Light P T d :=
 List.all_eq_true.2 fun x hx => List.all_eq_true.1 hz x (DataW.weights_mem_each ht hd x hx)
theorem arg_agg {ps : Array TypeId} {args : Array Value} {W : World} {base base' : Nat} {sp : Nat → Bool} {held : Bool} {H : Type} {enc : TypeId × Value → H} (hval : ∀ (j : Nat) t v, ps[j]? = some t → args[j]? = some v → Value.okWide P W .any base t v)
  (j : Nat) (T : TypeId) (v : Value) (hp : ps[j]? = some T) (ha : args[j]? = some v) {α : Type} (r : Rdr P T α) {d : DataW H} {p : List MemPlace} (hs : aggT P T = some true) (h : DataW.Trod enc P W base' sp held T v d p) (hli : Light P T d) :
  ∃ y, r.ok y ∧ RV G0 W (.agg ((r.enc y).map .d)) v := r.agg hs (hval j T v hp ha) h hli
theorem le_old {W W' : World} {G' : Gh} (h : Le G0 W G' W') (b : Nat) (hb : b < W.heap.size) : W'.heap[b]? = W.heap[b]? := (h.whole b hb rfl).2
theorem le_kept {W W' : World} {G' : Gh} (h : Le G0 W G' W') (may : MemPlace → Prop) : W.keptBut W' may := by
 refine ⟨h.os, h.output, fun i hi => ?_⟩
 rw [le_old h i hi]
 split
 ·rename_i c t fr c' t' fr' e1 e2
  rw [e1] at e2
  cases e2
  exact ⟨rfl, rfl, rfl, fun _ _ => rfl⟩
 ·rename_i e1 e2
  rw [e1] at e2
  cases e2
  exact .inr ⟨rfl, rfl⟩
 ·rfl
theorem le_same {W W' : World} {G' : Gh} (h : Le G0 W G' W') {p : MemPlace} (hp : p.block < W.heap.size) : W.sameAt W' p := by
 cases p with
 | cell b off => exact World.cell?_of_block (w := W) (a := ⟨b, off, none⟩) (le_old h b hp)
 | map b => exact le_old h b hp
theorem trodAll_stays {H : Type} {enc : TypeId × Value → H} {W W' : World} {T : TypeId → Prop} {sp' : Nat → Bool} (K : Kids P T) (hsz : ∀ {t e : TypeId}, T t → P.underlying t = some (.slice e) → 0 < P.cellsOf e) :
  ∀ {ts : List TypeId} {vs : List Value} {ds : List (DataW H)} {ps : List MemPlace}, (∀ t ∈ ts, T t) → DataW.TrodAll enc P W 0 (fun _ => true) true ts vs ds ps → (∀ p ∈ ps, W.sameAt W' p) → (∀ p ∈ ps, sp' p.block = true) →
  DataW.TrodAll enc P W' 0 sp' true ts vs ds ps
 | [], [], [], _, _, h, _, _ => h
 | t :: ts, v :: vs, d :: ds, _, hT, ⟨p, q, ⟨n, hn⟩, h2, e⟩, h3, h4 => by
  subst e
  exact ⟨p, q, ⟨n, DataW.trod_stays K hsz (fun h => by cases h) (hT t (by simp)) hn (fun x hx => h3 x (by simp [hx])) (fun x hx => h4 x (by simp [hx]))⟩,
   trodAll_stays K hsz (fun t ht => hT t (by simp [ht])) h2 (fun x hx => h3 x (by simp [hx])) (fun x hx => h4 x (by simp [hx])), rfl⟩
theorem law_of {f : FuncId} {fn : Func} {s : ChangeSpec} {H : Type} {enc : TypeId × Value → H} {W : World} {args : Array Value} {ds : List (DataW H)} {before : List MemPlace} {avs : List AV} {tok' : Nat → Bool} {nt' : Nat}
  (hl : laidOutB P = true) (hm : mapsRowed P = true) (hz : ((List.range P.types.size).all fun t => match P.underlying t with | some (.slice e) => decide (0 < P.cellsOf e) | _ => true) = true)
  (hpar : fn.params.all (· < P.types.size) = true) {tb : TypeId} (hres : fn.resultTypes = #[tb]) (hb : P.underlying tb = some .bool)
  (hvars : s.vars = []) (hfn : s.fn H ds = { results := [.lit (.bool true)], args := ds })
  (hW : DataW.Whole enc P fn.params.toList s.vars false W args.toList ds [] before) (hr : RVs G0 W avs args.toList) (hc : DCall P f avs (fun _ => false) 0 (B true) tok' nt') :
  Calls P f args W fun e W' => ∃ v, e = .returned v ∧ s.post enc P fn false true false false W args v W' := by
 have hcall := (hc (fun _ => none) 0).2 G0 W args.toList (relM_start W) hr
 simp only [Array.toArray_toList] at hcall
 refine hcall.mono ?_
 rintro e W' ⟨v, av, m', G', rfl, ⟨rfl, rfl⟩, _, _, hv, hle, _⟩
 cases hv with
 | d hv =>
  cases hv with
  | raw =>
   refine ⟨_, rfl, ?_⟩
   have hlt := hW.lt
   have hWW := hW
   obtain ⟨p, q, hA, hV, rfl, hfz, hnd⟩ := hW
   rw [hvars] at hV
   obtain ⟨_, rfl⟩ := trodVars_none hV
   simp only [List.append_nil] at hlt hfz hWW ⊢
   have hT : ∀ t ∈ fn.params.toList, t < P.types.size := fun t ht => by
    have := Array.all_eq_true_iff_forall_mem.1 hpar t (by simpa using ht)
    simpa using this
   have hsz : ∀ {t e : TypeId}, t < P.types.size → P.underlying t = some (.slice e) → 0 < P.cellsOf e := by
    intro t e ht hu
    have := List.all_eq_true.1 hz t (List.mem_range.2 ht)
    rw [hu] at this
    simpa using this
   have hargs : ∀ sp : Nat → Bool, (∀ x ∈ p, sp x.block = true) → DataW.TrodAll enc P W' 0 sp true fn.params.toList args.toList ds p := fun sp hsp =>
    trodAll_stays (kids_rows hl hm) hsz hT hA (fun x hx => le_same hle (hlt x hx)) hsp
   have hnat : (Value.bool true).resultList fn.resultTypes.size = [.bool true] := by rw [hres]; rfl
   have hresb : ∀ (b : Nat) (sp : Nat → Bool) (hd : Bool), DataW.TrodAll enc P W' b sp hd fn.resultTypes.toList ((Value.bool true).resultList fn.resultTypes.size) [.lit (.bool true)] [] := fun b sp hd => by
    rw [hnat, hres]
    exact trodAll_mk1 ⟨1, by simp [DataW.trod, hb, Value.cells]⟩
   have hfn' : s.fn H (ds ++ []) = { results := [.lit (.bool true)], args := ds } := by rw [List.append_nil]; exact hfn
   refine ⟨ds, [], p, [], p, [], hWW, ?_, ?_, ?_, World.keptBut_mono (fun _ f => f.elim) (le_kept hle fun _ => False), fun h => by cases h⟩
   ·rw [hfn']; exact hresb _ _ _
   ·rw [hfn']; exact hargs _ fun x hx => by simpa using hlt x hx
   ·rw [hfn', hvars]; exact rfl
end Go.AM
namespace Go.AM
open Go Go.Proofs
theorem laidOut0 : laidOutB Tryz.prog = true := by kernel_rfl
theorem mapsRowed0 : mapsRowed Tryz.prog = true := by kernel_rfl
theorem slices0 : ((List.range Tryz.prog.types.size).all fun t => match Tryz.prog.underlying t with | some (.slice e) => decide (0 < Tryz.prog.cellsOf e) | _ => true) = true := by kernel_rfl
def rdInt : Rdr Tryz.prog 3 Int := Rdr.int (k := .i64) Tryz.underlying3 (by kernel_rfl)
def rdInts : Rdr Tryz.prog 22 (List Int) := rdInt.sliceN 1 Tryz.underlying22 (by kernel_rfl) (by kernel_rfl)
def rdEdge0 : Rdr Tryz.prog 133 (Int × Int × Int) := Rdr.struct3 rdInt rdInt rdInt Tryz.underlying133 rfl rfl rfl rfl (by kernel_rfl) (by kernel_rfl) (by kernel_rfl)
def rdEdge : Rdr Tryz.prog 133 E := rdEdge0.map (fun x => ⟨x.1, x.2.1, x.2.2⟩) E.cells (fun _ => True) (fun _ => rfl) (fun _ _ => trivial) (fun _ => by kernel_rfl)
def rdEdges : Rdr Tryz.prog 23 (List E) := rdEdge.sliceN 3 Tryz.underlying23 (by kernel_rfl) (by kernel_rfl)
def rdGraph0 : Rdr Tryz.prog 25 (List Int × List E) := Rdr.struct2 rdInts rdEdges Tryz.underlying25 rfl rfl rfl (by kernel_rfl) (by kernel_rfl)
end Go.AM
namespace Go.AM
open Go Go.Proofs Go.ChangeShapes
structure RdF (P : Program) (T : TypeId) {α : Type} (en : α → List D) (ok : α → Prop) (n : Nat) : Prop where
 sound : ∀ {H : Type} (e : TypeId × Value → H) (w : World) (base : Nat) (spare : Nat → Bool) (held : Bool) (cs : List Value) (x : DataW H × List MemPlace),
  DataW.trod e P w base spare held n T cs = some x → ∃ y, Rd w cs (en y) ∧ (Light P T x.1 → ok y)
theorem Rdr.f {P : Program} {T : TypeId} {α : Type} (r : Rdr P T α) (n : Nat) : RdF P T r.enc r.ok n := ⟨fun e w base spare held cs x hx => r.sound e w base spare held n cs x hx⟩
theorem RdF.zero {P : Program} {T : TypeId} {α : Type} {en : α → List D} {ok : α → Prop} : RdF P T en ok 0 := ⟨fun e w base spare held cs x hx => by simp [DataW.trod] at hx⟩
def Rdr.ofF {P : Program} {T : TypeId} {α : Type} (en : α → List D) (ok : α → Prop) (len : ∀ x, (en x).length = P.cellsOf T) (h : ∀ n, RdF P T en ok n) : Rdr P T α := ⟨en, ok, len, fun e w base spare held n cs x hx => (h n).sound e w base spare held cs x hx⟩
theorem RdF.slice {P : Program} {T E : TypeId} {α : Type} {en : α → List D} {ok : α → Prop} {n : Nat} (r : RdF P E en ok n) (k : Nat) (hk : P.cellsOf E = k) (hlen : ∀ x, (en x).length = k) (h : P.underlying T = some (.slice E)) :
  RdF P T (fun l : List α => [.sl k (l.map en)]) (fun l => (∀ x ∈ l, ok x) ∧ l.length * P.bytesOf E ≤ reachBytes) (n + 1) := by
 subst hk
 constructor
 intro H e w base spare held cs x hx
 rcases DataW.trod_slice h hx with ⟨rfl, rfl⟩ | ⟨a, len, cap, elems, rest, n', hn', rfl, rfl, hb, hl, hm, hel, hat, _⟩
 ·exact ⟨[], Rd.one (.sl (es := []) (fun _ _ => default) (Nat.le_refl _) (by decide) (by simp) (by simp) (by simp) (by simp)), fun _ => ⟨by simp, by simp⟩⟩
 ·obtain rfl : n' = n := by omega
  have key : ∀ i (hi : i < elems.length), ∃ cs y, cs.length = P.cellsOf E ∧ (∀ j (hj : j < cs.length), w.cell? (a.add (i * P.cellsOf E + j)) = some cs[j]) ∧ Rd w cs (en y) ∧ (Light P E elems[i].1 → ok y) := by
   intro i hi
   have h1 := hat i (by omega)
   have h2 : elems[i]? = some elems[i] := List.getElem?_eq_getElem hi
   rw [h2, Option.bind_eq_some_iff] at h1
   obtain ⟨cs, hcs, htr⟩ := h1
   obtain ⟨hcl, hcc⟩ := cells_spec hcs
   obtain ⟨y, hy, hok⟩ := r.sound e w base spare held cs _ htr
   refine ⟨cs, y, hcl, fun j hj => ?_, hy, hok⟩
   rw [← Addr.add_add]
   exact hcc j hj
  have pick : ∀ m, m ≤ elems.length → ∃ ys : List α, ys.length = m ∧ (∀ i (hi : i < ys.length) (hi2 : i < elems.length), ∃ cs, cs.length = P.cellsOf E ∧ (∀ j (hj : j < cs.length), w.cell? (a.add (i * P.cellsOf E + j)) = some cs[j]) ∧ Rd w cs (en ys[i]) ∧ (Light P E elems[i].1 → ok ys[i])) := by
   intro m
   induction m with
   | zero => intro _; exact ⟨[], rfl, fun i hi => by simp at hi⟩
   | succ m ih =>
    intro hm'
    obtain ⟨ys, hys, hall⟩ := ih (by omega)
    obtain ⟨cs, y, g1, g2, g3, g4⟩ := key m (by omega)
    refine ⟨ys ++ [y], by simp [hys], fun i hi hi2 => ?_⟩
    by_cases him : i < ys.length
    ·rw [List.getElem_append_left him]
     exact hall i him hi2
    ·have : i = m := by simp at hi; omega
     subst this
     have e1 : (ys ++ [y])[i] = y := by
      rw [List.getElem_append_right (by omega)]
      simp
     rw [e1]
     exact ⟨cs, g1, g2, g3, g4⟩
  obtain ⟨ys, hys, hall⟩ := pick elems.length (Nat.le_refl _)
  refine ⟨ys, Rd.one ?_, fun hli => ?_⟩
  ·have hlen' : len = ys.length := by omega
   subst hlen'
   have hml : ys.length = (ys.map en).length := by simp
   rw [hml]
   refine .sl (fun i j => (w.cell? (a.add (i * P.cellsOf E + j))).getD default) (by simpa using hl) hm (fun e he => ?_) (fun _ => ⟨a, rfl⟩) (fun a' ha' i j hi hj => ?_) (fun i j hi hj => ?_)
   ·obtain ⟨y, _, rfl⟩ := List.mem_map.1 he
    exact hlen y
   ·cases ha'
    obtain ⟨cs, g1, g2, _⟩ := hall i (by simpa using hi) (by simp at hi; omega)
    rw [g2 j (by omega)]
    exact ⟨trivial, rfl⟩
   ·obtain ⟨cs, g1, g2, g3, _⟩ := hall i (by simpa using hi) (by simp at hi; omega)
    simp only [List.getElem_map] at hj ⊢
    have hjc : j < cs.length := by rw [g3.1]; exact hj
    rw [g2 j hjc]
    exact g3.2 j hjc hj
  ·obtain ⟨w1, w2⟩ := light_slice h hli
   refine ⟨fun y hy => ?_, by simpa [hys] using w1⟩
   obtain ⟨i, hi, rfl⟩ := List.getElem_of_mem hy
   obtain ⟨_, _, _, _, h4⟩ := hall i hi (by omega)
   exact h4 (w2 _ (List.mem_map.2 ⟨_, List.getElem_mem _, rfl⟩))
theorem list4 {α : Type} {l : List α} (h : l.length = 4) : l = [l[0]'(by omega), l[1]'(by omega), l[2]'(by omega), l[3]'(by omega)] := by
 match l, h with
 | [p, q, r, s], _ => rfl
theorem RdF.struct4 {P : Program} {T A B C E : TypeId} {α β γ δ : Type} {ea : α → List D} {eb : β → List D} {ec : γ → List D} {ed : δ → List D} {oa : α → Prop} {ob : β → Prop} {oc : γ → Prop} {od : δ → Prop} {n : Nat}
  (r : RdF P A ea oa n) (s : RdF P B eb ob n) (t : RdF P C ec oc n) (u : RdF P E ed od n) {f0 f1 f2 f3 : Field} (h : P.underlying T = some (.struct #[f0, f1, f2, f3])) (hA : f0.type = A) (hB : f1.type = B) (hC : f2.type = C) (hE : f3.type = E)
  (h0 : f0.offset = 0) (h1 : f1.offset = P.cellsOf A) (h2 : f2.offset = P.cellsOf A + P.cellsOf B) (h3 : f3.offset = P.cellsOf A + P.cellsOf B + P.cellsOf C) (hc : P.cellsOf T = P.cellsOf A + P.cellsOf B + P.cellsOf C + P.cellsOf E) :
  RdF P T (fun x : α × β × γ × δ => ea x.1 ++ (eb x.2.1 ++ (ec x.2.2.1 ++ ed x.2.2.2))) (fun x => oa x.1 ∧ ob x.2.1 ∧ oc x.2.2.1 ∧ od x.2.2.2) (n + 1) := by
 constructor
 intro H e w base spare held cs x hx
 obtain ⟨xs, n', hn', rfl, hl, hxs, hat⟩ := DataW.trod_struct h hx
 obtain rfl : n' = n := by omega
 have hxs' : xs.length = 4 := hxs
 have g0 := hat 0 f0 rfl
 have g1 := hat 1 f1 rfl
 have g2 := hat 2 f2 rfl
 have g3 := hat 3 f3 rfl
 have e0 : xs[0]? = some (xs[0]'(by omega)) := List.getElem?_eq_getElem (by omega)
 have e1 : xs[1]? = some (xs[1]'(by omega)) := List.getElem?_eq_getElem (by omega)
 have e2 : xs[2]? = some (xs[2]'(by omega)) := List.getElem?_eq_getElem (by omega)
 have e3 : xs[3]? = some (xs[3]'(by omega)) := List.getElem?_eq_getElem (by omega)
 rw [e0, h0, hA] at g0
 rw [e1, h1, hB] at g1
 rw [e2, h2, hC] at g2
 rw [e3, h3, hE] at g3
 obtain ⟨y, k1, k2⟩ := r.sound e w base spare held _ _ g0
 obtain ⟨z, m1, m2⟩ := s.sound e w base spare held _ _ g1
 obtain ⟨q, p1, p2⟩ := t.sound e w base spare held _ _ g2
 obtain ⟨v, q1, q2⟩ := u.sound e w base spare held _ _ g3
 refine ⟨(y, z, q, v), ?_, fun hli => ?_⟩
 rotate_left
 ·unfold Light at hli k2 m2 p2 q2
  have e2 : xs = [xs[0]'(by omega), xs[1]'(by omega), xs[2]'(by omega), xs[3]'(by omega)] := list4 hxs'
  rw [e2] at hli
  simp only [List.map_cons, List.map_nil, DataW.weights, h, DataW.weightsEach, hA, hB, hC, hE, List.all_append, Bool.and_eq_true] at hli
  exact ⟨k2 hli.1, m2 hli.2.1, p2 hli.2.2.1, q2 hli.2.2.2.1⟩
 have hcs : cs = (cs.drop 0).take (P.cellsOf A) ++ ((cs.drop (P.cellsOf A)).take (P.cellsOf B) ++ ((cs.drop (P.cellsOf A + P.cellsOf B)).take (P.cellsOf C) ++ (cs.drop (P.cellsOf A + P.cellsOf B + P.cellsOf C)).take (P.cellsOf E))) := by
  have : (cs.drop (P.cellsOf A + P.cellsOf B + P.cellsOf C)).take (P.cellsOf E) = cs.drop (P.cellsOf A + P.cellsOf B + P.cellsOf C) := List.take_of_length_le (by simp; omega)
  rw [this]
  have e3 := List.take_append_drop (P.cellsOf C) (cs.drop (P.cellsOf A + P.cellsOf B))
  have e2 := List.take_append_drop (P.cellsOf B) (cs.drop (P.cellsOf A))
  rw [List.drop_drop] at e3 e2
  rw [e3, e2, List.drop_zero, List.take_append_drop]
 rw [hcs]
 exact k1.append (m1.append (p1.append q1))
theorem by_int : Tryz.prog.bytesOf 3 = 8 := by kernel_rfl
theorem by_edge : Tryz.prog.bytesOf 133 = 24 := by kernel_rfl
theorem by_slot : Tryz.prog.bytesOf 102 = 32 := by kernel_rfl
theorem by_test : Tryz.prog.bytesOf 104 = 40 := by kernel_rfl
theorem by_cond : Tryz.prog.bytesOf 35 = 184 := by kernel_rfl
theorem rdInts_ok {l : List Int} (h : rdInts.ok l) : l.length ≤ bigN := by
 have h2 : l.length * Tryz.prog.bytesOf 3 ≤ reachBytes := h.2
 rw [by_int] at h2; unfold reachBytes at h2; rw [bigN_eq]; omega
theorem rdEdges_ok {l : List E} (h : rdEdges.ok l) : l.length ≤ bigN := by
 have h2 : l.length * Tryz.prog.bytesOf 133 ≤ reachBytes := h.2
 rw [by_edge] at h2; unfold reachBytes at h2; rw [bigN_eq]; omega
structure Gr.Big (g : Gr) : Prop where
 n : g.nodes.length ≤ bigN
 e : g.edges.length ≤ bigN
def rdGraphB : Rdr Tryz.prog 25 Gr := rdGraph0.map (fun x => ⟨x.1, x.2⟩) (fun g => [ints g.nodes, AM.edges g.edges]) Gr.Big (fun _ => rfl) (fun _ h => ⟨rdInts_ok h.1, rdEdges_ok h.2⟩) (fun _ => by kernel_rfl)
def rdMorph0 : Rdr Tryz.prog 32 (List Int × List Int) := Rdr.struct2 rdInts rdInts Tryz.underlying32 rfl rfl rfl (by kernel_rfl) (by kernel_rfl)
def rdTerm : Rdr Tryz.prog 100 (Int × Int) := Rdr.struct2 rdInt rdInt Tryz.underlying100 rfl rfl rfl (by kernel_rfl) (by kernel_rfl)
def rdSlot0 : Rdr Tryz.prog 102 (Int × Int × Int × Int) := Rdr.struct3 rdInt rdInt rdTerm Tryz.underlying102 rfl rfl rfl rfl (by kernel_rfl) (by kernel_rfl) (by kernel_rfl)
def rdSlot : Rdr Tryz.prog 102 Sl := rdSlot0.map (fun x => ⟨x.1, x.2.1, x.2.2.1, x.2.2.2⟩) Sl.cells (fun _ => True) (fun _ => rfl) (fun _ _ => trivial) (fun _ => by kernel_rfl)
def rdSlots : Rdr Tryz.prog 26 (List Sl) := rdSlot.sliceN 4 Tryz.underlying26 (by kernel_rfl) (by kernel_rfl)
def rdTest0 : Rdr Tryz.prog 104 (Int × (Int × Int) × (Int × Int)) := Rdr.struct3 rdInt rdTerm rdTerm Tryz.underlying104 rfl rfl rfl rfl (by kernel_rfl) (by kernel_rfl) (by kernel_rfl)
def rdTest : Rdr Tryz.prog 104 Te := rdTest0.map (fun x => ⟨x.1, x.2.1.1, x.2.1.2, x.2.2.1, x.2.2.2⟩) Te.cells (fun _ => True) (fun _ => rfl) (fun _ _ => trivial) (fun _ => by kernel_rfl)
def rdTests : Rdr Tryz.prog 27 (List Te) := rdTest.sliceN 5 Tryz.underlying27 (by kernel_rfl) (by kernel_rfl)
theorem rdPat_n (n : Nat) : RdF Tryz.prog 29 (fun x : Gr × List Sl × Int × List Te => rdGraphB.enc x.1 ++ (rdSlots.enc x.2.1 ++ (rdInt.enc x.2.2.1 ++ rdTests.enc x.2.2.2))) (fun x => rdGraphB.ok x.1 ∧ rdSlots.ok x.2.1 ∧ rdInt.ok x.2.2.1 ∧ rdTests.ok x.2.2.2) n := by
 cases n with
 | zero => exact .zero
 | succ n => exact RdF.struct4 (rdGraphB.f n) (rdSlots.f n) (rdInt.f n) (rdTests.f n) Tryz.underlying29 rfl rfl rfl rfl rfl (by kernel_rfl) (by kernel_rfl) (by kernel_rfl) (by kernel_rfl)
def rdPat : Rdr Tryz.prog 29 (Gr × List Sl × Int × List Te) := Rdr.ofF _ _ (fun x => by simp [rdGraphB.len, rdSlots.len, rdInt.len, rdTests.len]; kernel_rfl) rdPat_n
def Cd.rowD (c : Cd) : List D := [.raw (.int .i64 c.kind), conds c.kids, ints c.m.nodes, ints c.m.edges, ints c.g.nodes, AM.edges c.g.edges, slots c.sl, .raw (.int .i64 c.vars), tests c.te]
theorem rdCd_n : ∀ n, RdF Tryz.prog 35 Cd.cells Cd.Big n
 | 0 => .zero
 | 1 => by
  constructor
  intro H e w base spare held cs x hx
  obtain ⟨xs, n', hn', rfl, hl, hxs, hat⟩ := DataW.trod_struct Tryz.underlying35 hx
  obtain rfl : n' = 0 := by omega
  have g0 := hat 0 _ rfl
  simp [DataW.trod] at g0
  subst g0
  simp at hxs
 | n + 2 => by
  have ih := rdCd_n n
  have hk := ih.slice 9 (by kernel_rfl) (fun c => by rw [c.cells_eq]; rfl) (T := 33) Tryz.underlying33
  have hs := RdF.struct4 (rdInt.f (n + 1)) hk (rdMorph0.f (n + 1)) (rdPat.f (n + 1)) Tryz.underlying35 rfl rfl rfl rfl rfl (by kernel_rfl) (by kernel_rfl) (by kernel_rfl) (by kernel_rfl)
  constructor
  intro H e w base spare held cs x hx
  obtain ⟨y, h1, h2⟩ := hs.sound e w base spare held cs x hx
  refine ⟨.mk y.1 y.2.1 ⟨y.2.2.1.1, y.2.2.1.2⟩ y.2.2.2.1 y.2.2.2.2.1 y.2.2.2.2.2.1 y.2.2.2.2.2.2, ?_, fun hli => ?_⟩
  ·rw [Cd.cells_eq]
   exact h1
  ·obtain ⟨_, ⟨k1, k2⟩, ⟨m1, m2⟩, g1, s1, _, t1⟩ := h2 hli
   have g2 : y.2.2.2.1.Big := g1
   have s2 : y.2.2.2.2.1.length * Tryz.prog.bytesOf 102 ≤ reachBytes := s1.2
   have t2 : y.2.2.2.2.2.2.length * Tryz.prog.bytesOf 104 ≤ reachBytes := t1.2
   rw [by_slot] at s2
   rw [by_test] at t2
   rw [by_cond] at k2
   unfold reachBytes at s2 t2 k2
   exact .mk (by rw [kidN_eq]; simp only [Cd.kids]; omega) (rdInts_ok m1) (rdInts_ok m2) g2.n g2.e (by rw [bigN_eq]; simp only [Cd.sl]; omega) (by rw [bigN_eq]; simp only [Cd.te]; omega) k1
theorem rdCd_len (c : Cd) : c.cells.length = Tryz.prog.cellsOf 35 := by rw [c.cells_eq]; kernel_rfl
def rdCd : Rdr Tryz.prog 35 Cd := Rdr.ofF Cd.cells Cd.Big rdCd_len rdCd_n
set_option maxRecDepth 100000 in
theorem arg_cond {ps : Array TypeId} {args : Array Value} {W : World} {base base' : Nat} {sp : Nat → Bool} {held : Bool} {H : Type} {enc : TypeId × Value → H} (hval : ∀ (j : Nat) t v, ps[j]? = some t → args[j]? = some v → Value.okWide Tryz.prog W .any base t v)
  (j : Nat) (v : Value) (hp : ps[j]? = some 35) (ha : args[j]? = some v) {d : DataW H} {p : List MemPlace} (h : DataW.Trod enc Tryz.prog W base' sp held 35 v d p) (hli : Light Tryz.prog 35 d) : ∃ c : Cd, c.Big ∧ RV G0 W c.av v := by
 refine Exists.elim (arg_agg hval j 35 v hp ha rdCd aggT_35 h hli) fun c hc => ⟨c, hc.1, ?_⟩
 have h2 : RV G0 W (.agg (c.cells.map .d)) v := hc.2
 rw [c.cells_eq] at h2
 exact h2
end Go.AM
namespace Go.AM
open Go Go.Proofs Go.ChangeShapes
def Rdr.str {P : Program} {T : TypeId} (h : P.underlying T = some .string) (hc : P.cellsOf T = 1) : Rdr P T ByteArray where
 enc n := [.raw (.string n)]
 ok n := n.size ≤ maxLen
 len _ := by simp [hc]
 sound e w base spare held fuel cs x hx := by
  cases fuel with
  | zero => simp [DataW.trod] at hx
  | succ n =>
   unfold DataW.trod at hx
   rw [h] at hx
   split at hx <;> simp_all
   exact ⟨_, Rd.one (.raw rfl), fun _ => hx.1⟩
def Rdr.bool {P : Program} {T : TypeId} (h : P.underlying T = some .bool) (hc : P.cellsOf T = 1) : Rdr P T Bool where
 enc n := [.raw (.bool n)]
 ok n := True
 len _ := by simp [hc]
 sound e w base spare held fuel cs x hx := by
  cases fuel with
  | zero => simp [DataW.trod] at hx
  | succ n =>
   unfold DataW.trod at hx
   rw [h] at hx
   split at hx <;> first | (simp_all; done) | skip
   exact ⟨_, Rd.one (.raw rfl), fun _ => trivial⟩
theorem list7 {α : Type} {l : List α} (h : l.length = 7) : l = [l[0]'(by omega), l[1]'(by omega), l[2]'(by omega), l[3]'(by omega), l[4]'(by omega), l[5]'(by omega), l[6]'(by omega)] := by
 match l, h with
 | [p0, p1, p2, p3, p4, p5, p6], _ => rfl
theorem RdF.struct7 {P : Program} {T T0 T1 T2 T3 T4 T5 T6 : TypeId} {a0 a1 a2 a3 a4 a5 a6 : Type} {e0 : a0 → List D} {e1 : a1 → List D} {e2 : a2 → List D} {e3 : a3 → List D} {e4 : a4 → List D} {e5 : a5 → List D} {e6 : a6 → List D} {o0 : a0 → Prop} {o1 : a1 → Prop} {o2 : a2 → Prop} {o3 : a3 → Prop} {o4 : a4 → Prop} {o5 : a5 → Prop} {o6 : a6 → Prop} {n : Nat}
  (r0 : RdF P T0 e0 o0 n) (r1 : RdF P T1 e1 o1 n) (r2 : RdF P T2 e2 o2 n) (r3 : RdF P T3 e3 o3 n) (r4 : RdF P T4 e4 o4 n) (r5 : RdF P T5 e5 o5 n) (r6 : RdF P T6 e6 o6 n) {f0 f1 f2 f3 f4 f5 f6 : Field} (h : P.underlying T = some (.struct #[f0, f1, f2, f3, f4, f5, f6])) (t0 : f0.type = T0) (t1 : f1.type = T1) (t2 : f2.type = T2) (t3 : f3.type = T3) (t4 : f4.type = T4) (t5 : f5.type = T5) (t6 : f6.type = T6)
  (h0 : f0.offset = 0) (h1 : f1.offset = P.cellsOf T0) (h2 : f2.offset = P.cellsOf T0 + P.cellsOf T1) (h3 : f3.offset = P.cellsOf T0 + P.cellsOf T1 + P.cellsOf T2) (h4 : f4.offset = P.cellsOf T0 + P.cellsOf T1 + P.cellsOf T2 + P.cellsOf T3) (h5 : f5.offset = P.cellsOf T0 + P.cellsOf T1 + P.cellsOf T2 + P.cellsOf T3 + P.cellsOf T4) (h6 : f6.offset = P.cellsOf T0 + P.cellsOf T1 + P.cellsOf T2 + P.cellsOf T3 + P.cellsOf T4 + P.cellsOf T5) (hc : P.cellsOf T = P.cellsOf T0 + P.cellsOf T1 + P.cellsOf T2 + P.cellsOf T3 + P.cellsOf T4 + P.cellsOf T5 + P.cellsOf T6) :
  RdF P T (fun x : a0 × a1 × a2 × a3 × a4 × a5 × a6 => e0 x.1 ++ (e1 x.2.1 ++ (e2 x.2.2.1 ++ (e3 x.2.2.2.1 ++ (e4 x.2.2.2.2.1 ++ (e5 x.2.2.2.2.2.1 ++ e6 x.2.2.2.2.2.2)))))) (fun x => o0 x.1 ∧ o1 x.2.1 ∧ o2 x.2.2.1 ∧ o3 x.2.2.2.1 ∧ o4 x.2.2.2.2.1 ∧ o5 x.2.2.2.2.2.1 ∧ o6 x.2.2.2.2.2.2) (n + 1) := by
 constructor
 intro H e w base spare held cs x hx
 obtain ⟨xs, n', hn', rfl, hl, hxs, hat⟩ := DataW.trod_struct h hx
 obtain rfl : n' = n := by omega
 have hxs' : xs.length = 7 := hxs
 have g0 := hat 0 f0 rfl
 have g1 := hat 1 f1 rfl
 have g2 := hat 2 f2 rfl
 have g3 := hat 3 f3 rfl
 have g4 := hat 4 f4 rfl
 have g5 := hat 5 f5 rfl
 have g6 := hat 6 f6 rfl
 have e0 : xs[0]? = some (xs[0]'(by omega)) := List.getElem?_eq_getElem (by omega)
 have e1 : xs[1]? = some (xs[1]'(by omega)) := List.getElem?_eq_getElem (by omega)
 have e2 : xs[2]? = some (xs[2]'(by omega)) := List.getElem?_eq_getElem (by omega)
 have e3 : xs[3]? = some (xs[3]'(by omega)) := List.getElem?_eq_getElem (by omega)
 have e4 : xs[4]? = some (xs[4]'(by omega)) := List.getElem?_eq_getElem (by omega)
 have e5 : xs[5]? = some (xs[5]'(by omega)) := List.getElem?_eq_getElem (by omega)
 have e6 : xs[6]? = some (xs[6]'(by omega)) := List.getElem?_eq_getElem (by omega)
 rw [e0, h0, t0] at g0
 rw [e1, h1, t1] at g1
 rw [e2, h2, t2] at g2
 rw [e3, h3, t3] at g3
 rw [e4, h4, t4] at g4
 rw [e5, h5, t5] at g5
 rw [e6, h6, t6] at g6
 obtain ⟨y0, k0, m0⟩ := r0.sound e w base spare held _ _ g0
 obtain ⟨y1, k1, m1⟩ := r1.sound e w base spare held _ _ g1
 obtain ⟨y2, k2, m2⟩ := r2.sound e w base spare held _ _ g2
 obtain ⟨y3, k3, m3⟩ := r3.sound e w base spare held _ _ g3
 obtain ⟨y4, k4, m4⟩ := r4.sound e w base spare held _ _ g4
 obtain ⟨y5, k5, m5⟩ := r5.sound e w base spare held _ _ g5
 obtain ⟨y6, k6, m6⟩ := r6.sound e w base spare held _ _ g6
 refine ⟨(y0, y1, y2, y3, y4, y5, y6), ?_, fun hli => ?_⟩
 rotate_left
 ·unfold Light at hli m0 m1 m2 m3 m4 m5 m6
  rw [list7 hxs'] at hli
  simp only [List.map_cons, List.map_nil, DataW.weights, h, DataW.weightsEach, t0, t1, t2, t3, t4, t5, t6, List.all_append, Bool.and_eq_true] at hli
  exact ⟨m0 hli.1, m1 hli.2.1, m2 hli.2.2.1, m3 hli.2.2.2.1, m4 hli.2.2.2.2.1, m5 hli.2.2.2.2.2.1, m6 hli.2.2.2.2.2.2.1⟩
 have hcs : cs = (cs.drop (0)).take (P.cellsOf T0) ++ ((cs.drop (P.cellsOf T0)).take (P.cellsOf T1) ++ ((cs.drop (P.cellsOf T0 + P.cellsOf T1)).take (P.cellsOf T2) ++ ((cs.drop (P.cellsOf T0 + P.cellsOf T1 + P.cellsOf T2)).take (P.cellsOf T3) ++ ((cs.drop (P.cellsOf T0 + P.cellsOf T1 + P.cellsOf T2 + P.cellsOf T3)).take (P.cellsOf T4) ++ ((cs.drop (P.cellsOf T0 + P.cellsOf T1 + P.cellsOf T2 + P.cellsOf T3 + P.cellsOf T4)).take (P.cellsOf T5) ++ ((cs.drop (P.cellsOf T0 + P.cellsOf T1 + P.cellsOf T2 + P.cellsOf T3 + P.cellsOf T4 + P.cellsOf T5)).take (P.cellsOf T6))))))) := by
  have : (cs.drop (P.cellsOf T0 + P.cellsOf T1 + P.cellsOf T2 + P.cellsOf T3 + P.cellsOf T4 + P.cellsOf T5)).take (P.cellsOf T6) = cs.drop (P.cellsOf T0 + P.cellsOf T1 + P.cellsOf T2 + P.cellsOf T3 + P.cellsOf T4 + P.cellsOf T5) := List.take_of_length_le (by simp; omega)
  rw [this]
  have e5 := List.take_append_drop (P.cellsOf T5) (cs.drop (P.cellsOf T0 + P.cellsOf T1 + P.cellsOf T2 + P.cellsOf T3 + P.cellsOf T4))
  have e4 := List.take_append_drop (P.cellsOf T4) (cs.drop (P.cellsOf T0 + P.cellsOf T1 + P.cellsOf T2 + P.cellsOf T3))
  have e3 := List.take_append_drop (P.cellsOf T3) (cs.drop (P.cellsOf T0 + P.cellsOf T1 + P.cellsOf T2))
  have e2 := List.take_append_drop (P.cellsOf T2) (cs.drop (P.cellsOf T0 + P.cellsOf T1))
  have e1 := List.take_append_drop (P.cellsOf T1) (cs.drop (P.cellsOf T0))
  rw [List.drop_drop] at e5 e4 e3 e2 e1
  rw [e5, e4, e3, e2, e1, List.drop_zero, List.take_append_drop]
 rw [hcs]
 exact k0.append (k1.append (k2.append (k3.append (k4.append (k5.append (k6))))))
end Go.AM
namespace Go.AM
open Go Go.Proofs Go.ChangeShapes
def rdStr : Rdr Tryz.prog 9 ByteArray := Rdr.str Tryz.underlying9 (by kernel_rfl)
def rdBool : Rdr Tryz.prog 4 Bool := Rdr.bool Tryz.underlying4 (by kernel_rfl)
def rdPart0 : Rdr Tryz.prog 31 (List Int × List Int) := Rdr.struct2 rdInts rdInts Tryz.underlying31 rfl rfl rfl (by kernel_rfl) (by kernel_rfl)
theorem rdSlots_ok {l : List Sl} (h : rdSlots.ok l) : l.length ≤ bigN := by
 have h2 : l.length * Tryz.prog.bytesOf 102 ≤ reachBytes := h.2
 rw [by_slot] at h2
 have : reachBytes = 140737488351232 := rfl
 rw [bigN_eq]; omega
theorem rdTests_ok {l : List Te} (h : rdTests.ok l) : l.length ≤ bigN := by
 have h2 : l.length * Tryz.prog.bytesOf 104 ≤ reachBytes := h.2
 rw [by_test] at h2
 have : reachBytes = 140737488351232 := rfl
 rw [bigN_eq]; omega
abbrev RuT := ByteArray × (Gr × List Sl × Int × List Te) × (Gr × List Sl × Int × List Te) × (List Int × List Int) × (List Int × List Int) × Bool × Cd
theorem rdRu_n (n : Nat) : RdF Tryz.prog 37 (fun x : RuT => rdStr.enc x.1 ++ (rdPat.enc x.2.1 ++ (rdPat.enc x.2.2.1 ++ (rdPart0.enc x.2.2.2.1 ++ (rdMorph0.enc x.2.2.2.2.1 ++ (rdBool.enc x.2.2.2.2.2.1 ++ rdCd.enc x.2.2.2.2.2.2)))))) (fun x => rdStr.ok x.1 ∧ rdPat.ok x.2.1 ∧ rdPat.ok x.2.2.1 ∧ rdPart0.ok x.2.2.2.1 ∧ rdMorph0.ok x.2.2.2.2.1 ∧ rdBool.ok x.2.2.2.2.2.1 ∧ rdCd.ok x.2.2.2.2.2.2) n := by
 cases n with
 | zero => exact .zero
 | succ n => exact RdF.struct7 (rdStr.f n) (rdPat.f n) (rdPat.f n) (rdPart0.f n) (rdMorph0.f n) (rdBool.f n) (rdCd.f n) Tryz.underlying37 rfl rfl rfl rfl rfl rfl rfl rfl (by kernel_rfl) (by kernel_rfl) (by kernel_rfl) (by kernel_rfl) (by kernel_rfl) (by kernel_rfl) (by kernel_rfl)
def rdRu0 : Rdr Tryz.prog 37 RuT := Rdr.ofF _ _ (fun x => by simp [rdStr.len, rdPat.len, rdPart0.len, rdMorph0.len, rdBool.len, rdCd.len]; kernel_rfl) rdRu_n
def Ru.rowD (r : Ru) : List D := [.raw (.string r.name), ints r.lg.nodes, AM.edges r.lg.edges, slots r.lsl, .raw (.int .i64 r.lv), tests r.lte, ints r.rg.nodes, AM.edges r.rg.edges, slots r.rsl, .raw (.int .i64 r.rv), tests r.rte,
 ints r.k.nodes, ints r.k.edges, ints r.i.nodes, ints r.i.edges, .raw (.bool r.inj)] ++ r.c.cells
theorem rdRu_len (r : Ru) : r.rowD.length = Tryz.prog.cellsOf 37 := by rw [Ru.rowD, r.c.cells_eq]; kernel_rfl
def rdRu : Rdr Tryz.prog 37 Ru := rdRu0.map (fun x => ⟨x.1, x.2.1.1, x.2.1.2.1, x.2.1.2.2.1, x.2.1.2.2.2, x.2.2.1.1, x.2.2.1.2.1, x.2.2.1.2.2.1, x.2.2.1.2.2.2, ⟨x.2.2.2.1.1, x.2.2.2.1.2⟩, ⟨x.2.2.2.2.1.1, x.2.2.2.2.1.2⟩, x.2.2.2.2.2.1, x.2.2.2.2.2.2⟩) Ru.rowD Ru.Big (fun _ => rfl) (fun x h => ⟨⟨rdInts_ok h.2.2.2.1.1, rdInts_ok h.2.2.2.1.2⟩, ⟨rdInts_ok h.2.2.2.2.1.1, rdInts_ok h.2.2.2.2.1.2⟩, rdSlots_ok h.2.1.2.1, rdTests_ok h.2.1.2.2.2, rdSlots_ok h.2.2.1.2.1, rdTests_ok h.2.2.1.2.2.2, h.2.2.2.2.2.2⟩) rdRu_len
set_option maxRecDepth 100000 in
theorem arg_rule {ps : Array TypeId} {args : Array Value} {W : World} {base base' : Nat} {sp : Nat → Bool} {held : Bool} {H : Type} {enc : TypeId × Value → H} (hval : ∀ (j : Nat) t v, ps[j]? = some t → args[j]? = some v → Value.okWide Tryz.prog W .any base t v)
  (j : Nat) (v : Value) (hp : ps[j]? = some 37) (ha : args[j]? = some v) {d : DataW H} {p : List MemPlace} (h : DataW.Trod enc Tryz.prog W base' sp held 37 v d p) (hli : Light Tryz.prog 37 d) : ∃ r : Ru, r.Big ∧ RV G0 W r.av v := by
 refine Exists.elim (arg_agg hval j 37 v hp ha rdRu aggT_37 h hli) fun r hr => ⟨r, hr.1, ?_⟩
 have h2 : RV G0 W (.agg (r.rowD.map .d)) v := hr.2
 rw [Ru.rowD, r.c.cells_eq] at h2
 exact h2
end Go.AM
namespace Go.AM
open Go Go.Proofs Go.ChangeShapes
def fewNm (s : ByteArray) : Bool := decide (s.size ≤ 40)
def fewAt (a : At) : Bool := if 40 < a.name.size then false else if 25 < a.names.length then false else allP fewNm a.names
def sumOwn (t : Ty) : Nat → Nat
 | 0 => 0
 | i + 1 => sumOwn t i + (t.nd i).own.length
def fewNd (t : Ty) (i : Nat) : Int := if 30 < sumOwn t (i + 1) then 1 else if 40 < (t.nd i).name.size then 1 else if allP fewAt (t.nd i).own = true then 0 else 1
def fewEd (e : ET) : Bool := decide (e.name.size ≤ 40)
def fewT (t : Ty) : Bool := if 20 < t.nodes.length then false else if 30 < t.edges.length then false else if firstE (fewNd t) t.nodes.length ≠ 0 then false else allP fewEd t.edges
structure At.Big (a : At) : Prop where
 n : a.name.size ≤ maxLen
 l : a.names.length ≤ bigN
 s : ∀ x ∈ a.names, x.size ≤ maxLen
structure NT.Big (x : NT) : Prop where
 n : x.name.size ≤ maxLen
 l : x.own.length ≤ bigN
 a : ∀ y ∈ x.own, y.Big
structure Ty.Big (t : Ty) : Prop where
 n : t.nodes.length ≤ bigN
 e : t.edges.length ≤ bigN
 nn : ∀ x ∈ t.nodes, x.Big
 en : ∀ x ∈ t.edges, x.name.size ≤ maxLen
theorem allP_iff {α : Type} {p : α → Bool} {l : List α} : allP p l = true ↔ ∀ x ∈ l, p x = true := by simp [allP]
theorem fewAt_fit {a : At} (h : fewAt a = true) : a.Fit := by
 unfold fewAt at h
 split at h
 ·cases h
 ·split at h
  ·cases h
  ·rw [allP_iff] at h
   exact ⟨by omega, ⟨by omega, fun x hx => by have := h x hx; simp only [fewNm, decide_eq_true_eq] at this; omega⟩⟩
theorem fewNd_zero {t : Ty} {i : Nat} (h : fewNd t i = 0) : sumOwn t (i + 1) ≤ 30 ∧ (t.nd i).name.size ≤ 40 ∧ ∀ x ∈ (t.nd i).own, x.Fit := by
 unfold fewNd at h
 split at h
 ·cases h
 ·split at h
  ·cases h
  ·split at h
   ·rename_i h1 h2 h3
    rw [allP_iff] at h3
    exact ⟨by omega, by omega, fun x hx => fewAt_fit (h3 x hx)⟩
   ·cases h
theorem fewT_fit {t : Ty} (h : fewT t = true) : t.Fit := by
 unfold fewT at h
 split at h
 ·cases h
 ·split at h
  ·cases h
  ·split at h
   ·cases h
   ·rename_i h1 h2 h3
    have hz := firstE_allZ _ (Decidable.not_not.1 h3)
    rw [allP_iff] at h
    have key : ∀ x ∈ t.nodes, ∃ i, i < t.nodes.length ∧ t.nd i = x := fun x hx => by
     obtain ⟨i, hi, he⟩ := List.mem_iff_getElem.1 hx
     exact ⟨i, hi, by rw [nd_at hi, he]⟩
    refine ⟨by omega, by omega, fun x hx => ?_, fun x hx => ?_, fun x hx => ?_⟩
    ·obtain ⟨i, hi, he⟩ := key x hx
     have := (fewNd_zero (hz i hi)).2.1
     rw [he] at this
     omega
    ·have := h x hx
     simp only [fewEd, decide_eq_true_eq] at this
     omega
    ·obtain ⟨i, hi, he⟩ := key x hx
     have h4 := fewNd_zero (hz i hi)
     rw [he] at h4
     refine ⟨?_, h4.2.2⟩
     have := h4.1
     simp only [sumOwn, he] at this
     omega
theorem fewNd_eq {t : Ty} {i : Nat} (h : i < t.nodes.length) : fewNd t i = if 30 < sumOwn t i + t.nodes[i].own.length then 1 else if 40 < t.nodes[i].name.size then 1 else if allP fewAt t.nodes[i].own = true then 0 else 1 := by rw [fewNd, sumOwn, nd_at h]
abbrev fwB (t : Ty) : Nat × List (List AV) := (1, [[.d (nts t.nodes), .d (ets t.edges)]])
def stFw1 (t : Ty) (nb : Nat) (box : Nat → Option (List (List AV))) (tok : Nat → Bool) (nt : Nat) (i : Nat) : AState := ⟨tl [(4, I i), (3, I (sumOwn t i)), (1, .ptr (nb + 1) 0 0)], lb nb box [fwB t], tok, nt⟩
def stFw2 (t : Ty) (i n : Nat) (nb : Nat) (box : Nat → Option (List (List AV))) (tok : Nat → Bool) (nt : Nat) (k : Nat) : AState := ⟨tl [(5, I k), (4, I i), (3, I n), (1, .ptr (nb + 1) 0 0)], lb nb box [fwB t], tok, nt⟩
def stFw3 (t : Ty) (i n k : Nat) (a : At) (nb : Nat) (box : Nat → Option (List (List AV))) (tok : Nat → Bool) (nt : Nat) (j : Nat) : AState := ⟨tl [(7, I j), (6, .ptr (nb + 6) 0 0), (5, I k), (4, I i), (3, I n), (1, .ptr (nb + 1) 0 0)], lb nb box [(6, [a.row]), fwB t], tok, nt⟩
def stFw4 (t : Ty) (nb : Nat) (box : Nat → Option (List (List AV))) (tok : Nat → Bool) (nt : Nat) (i : Nat) : AState := ⟨tl [(8, I i), (1, .ptr (nb + 1) 0 0)], lb nb box [fwB t], tok, nt⟩
theorem tyFew_c (t : Ty) (hb : t.Big) (tok : Nat → Bool) (nt : Nat) : DCall Tryz.prog 17 [t.av] tok nt (B (fewT t)) tok nt := by
 intro box nb
 have hbn := hb.n
 have hbe := hb.e
 rw [bigN_eq] at hbn hbe
 obtain ⟨N, hN⟩ : ∃ N, fewT t = N := ⟨_, rfl⟩
 rw [hN]
 unfold fewT at hN
 by_cases e1 : 20 < t.nodes.length
 ·have e1' : (20 : Int) < t.nodes.length := by omega
  rw [if_pos e1] at hN
  refine sB Tryz.func17 Tryz.ntmps17 ?_
  intro hbox htok
  simp only at hbox htok
  apply AL.start
  try (simp [e1, e1'])
  repeat (refine sR ?_; simp [e1, e1'])
  refine sC ?_
  simp [e1, e1']
  try (simp)
  repeat (refine sR ?_; simp)
  refine sT ?_
  try simp only [AU]
  refine ⟨by simp, sF hbox htok (fun _ h => h) (Nat.le_refl _) ?_⟩
  simp [packA, ← hN]
 ·have e1' : ¬ (20 : Int) < t.nodes.length := by omega
  rw [if_neg e1] at hN
  by_cases e2 : 30 < t.edges.length
  ·have e2' : (30 : Int) < t.edges.length := by omega
   rw [if_pos e2] at hN
   refine sB Tryz.func17 Tryz.ntmps17 ?_
   intro hbox htok
   simp only at hbox htok
   apply AL.start
   try (simp [e1, e1', e2, e2'])
   repeat (refine sR ?_; simp [e1, e1', e2, e2'])
   refine sC ?_
   simp [e1, e1', e2, e2']
   try (simp)
   repeat (refine sR ?_; simp)
   refine sT ?_
   try simp only [AU]
   refine ⟨by simp, sF hbox htok (fun _ h => h) (Nat.le_refl _) ?_⟩
   simp [packA, ← hN]
  ·have e2' : ¬ (30 : Int) < t.edges.length := by omega
   rw [if_neg e2] at hN
   refine sB Tryz.func17 Tryz.ntmps17 ?_
   intro hbox htok
   simp only at hbox htok
   apply AL.start
   try (simp [e1, e1', e2, e2'])
   repeat (refine sR ?_; simp [e1, e1', e2, e2'])
   refine sC ?_
   simp [e1, e1', e2, e2']
   try (simp)
   repeat (refine sR ?_; simp)
   refine sN ?_
   refine AL.loopT (stFw1 t nb box tok nt) (fun i => i ≤ t.nodes.length ∧ sumOwn t i ≤ 30 ∧ firstE (fewNd t) i = 0) (fun i => t.nodes.length - i) 0 ⟨Nat.zero_le _, Nat.zero_le _, rfl⟩ (Weaks.mk (Nat.le_refl _) rfl (by simp [ToL, lk, lb_at, sumOwn]) (by simp [BoxL, lk])) ?_
   rintro i S' ⟨hi, hsum, hok⟩ hS
   simp only [stFw1] at hS
   subst hS
   have hw := sW (i := i) (by omega)
   try (simp)
   repeat (refine sR ?_; simp)
   refine sC ?_
   simp
   refine ⟨fun hlt => ?_, fun hge => ?_⟩
   ·have hR : fewNd t i ≠ 0 → firstE (fewNd t) t.nodes.length = fewNd t i := fun h0 => firstE_stop hok h0 _ hlt
    have hnx : fewNd t i = 0 → firstE (fewNd t) (i + 1) = 0 := fun h0 => by simp only [firstE, hok, h0, ↓reduceIte]
    have hd := fewNd_eq hlt
    have hsn : sumOwn t (i + 1) = sumOwn t i + t.nodes[i].own.length := by rw [sumOwn, nd_at hlt]
    have hnb := hb.nn _ (List.getElem_mem hlt)
    have hol := hnb.l
    rw [bigN_eq] at hol
    have hws : IntKind.i64.wrap ((sumOwn t i : Nat) + (t.nodes[i].own.length : Nat) : Int) = ((sumOwn t i + t.nodes[i].own.length : Nat) : Int) := by rw [wrap_in (by omega) (by omega)]; rfl
    by_cases c1 : 30 < sumOwn t i + t.nodes[i].own.length
    ·have c1' : (30 : Int) < (sumOwn t i : Int) + (t.nodes[i].own.length : Int) := by omega
     rw [if_pos c1] at hd
     rw [if_pos (by rw [hR (by rw [hd]; decide), hd]; decide)] at hN
     try (simp [hlt, hws, c1, c1'])
     repeat (refine sR ?_; simp [hlt, hws, c1, c1'])
     refine sC ?_
     simp [c1, c1']
     try (simp)
     repeat (refine sR ?_; simp)
     refine sT ?_
     try simp only [AU]
     refine ⟨by simp, sF hbox htok (fun _ h => h) (Nat.le_refl _) ?_⟩
     simp [packA, ← hN]
    ·have c1' : ¬ (30 : Int) < ((sumOwn t i + t.nodes[i].own.length : Nat) : Int) := by omega
     rw [if_neg c1] at hd
     by_cases c2 : 40 < t.nodes[i].name.size
     ·have c2' : (40 : Int) < t.nodes[i].name.size := by omega
      rw [if_pos c2] at hd
      rw [if_pos (by rw [hR (by rw [hd]; decide), hd]; decide)] at hN
      have c1' : ¬ (30 : Int) < (sumOwn t i : Int) + (t.nodes[i].own.length : Int) := by omega
      try (simp [hlt, hws, c1, c1', c2, c2'])
      repeat (refine sR ?_; simp [hlt, hws, c1, c1', c2, c2'])
      refine sC ?_
      simp [c1, c1', c2, c2']
      try (simp)
      repeat (refine sR ?_; simp)
      refine sT ?_
      try simp only [AU]
      refine ⟨by simp, sF hbox htok (fun _ h => h) (Nat.le_refl _) ?_⟩
      simp [packA, ← hN]
     ·have c2' : ¬ (40 : Int) < t.nodes[i].name.size := by omega
      rw [if_neg c2] at hd
      obtain ⟨n, hn⟩ : ∃ n : Nat, sumOwn t i + t.nodes[i].own.length = n := ⟨_, rfl⟩
      rw [hn] at hws c1' c1 hsn
      try (simp [hlt, hws, c1, c1', c2, c2'])
      repeat (refine sR ?_; simp [hlt, hws, c1, c1', c2, c2'])
      refine sC ?_
      simp [c1, c1', c2, c2']
      try (simp)
      repeat (refine sR ?_; simp)
      refine sN ?_
      refine AL.loopT (stFw2 t i n nb box tok nt) (fun k => k ≤ t.nodes[i].own.length ∧ allP fewAt (t.nodes[i].own.take k) = true) (fun k => t.nodes[i].own.length - k) 0 ⟨Nat.zero_le _, rfl⟩ (Weaks.mk (Nat.le_refl _) rfl (by simp [ToL, lk, lb_at]) (by simp [BoxL, lk])) ?_
      rintro k S' ⟨hk, hall⟩ hS
      simp only [stFw2] at hS
      subst hS
      have hwk := sW (i := k) (by omega)
      try (simp [hlt])
      repeat (refine sR ?_; simp [hlt])
      refine sC ?_
      simp
      refine ⟨fun hlk => ?_, fun hgek => ?_⟩
      ·have hno := fun h => all_no (p := fewAt) hlk h
       have hyes := fun h => all_more (p := fewAt) hlk hall h
       have hba := hnb.a _ (List.getElem_mem hlk)
       have hbl := hba.l
       rw [bigN_eq] at hbl
       have hda : fewAt t.nodes[i].own[k] = if 40 < t.nodes[i].own[k].name.size then false else if 25 < t.nodes[i].own[k].names.length then false else allP fewNm t.nodes[i].own[k].names := rfl
       have hbad : fewAt t.nodes[i].own[k] = false → N = false := fun h => by
        rw [hno h, if_neg (by simp)] at hd
        rw [if_pos (by rw [hR (by rw [hd]; decide), hd]; decide)] at hN
        exact hN.symm
       by_cases c3 : 40 < t.nodes[i].own[k].name.size
       ·have c3' : (40 : Int) < t.nodes[i].own[k].name.size := by omega
        rw [if_pos c3] at hda
        try (simp [hlt, hlk, c3, c3'])
        repeat (refine sR ?_; simp [hlt, hlk, c3, c3'])
        refine sC ?_
        simp [c3, c3']
        try (simp)
        repeat (refine sR ?_; simp)
        refine sT ?_
        try simp only [AU]
        refine ⟨by simp, sF hbox htok (fun _ h => h) (Nat.le_refl _) ?_⟩
        simp [packA, hbad hda]
       ·have c3' : ¬ (40 : Int) < t.nodes[i].own[k].name.size := by omega
        rw [if_neg c3] at hda
        by_cases c4 : 25 < t.nodes[i].own[k].names.length
        ·have c4' : (25 : Int) < t.nodes[i].own[k].names.length := by omega
         rw [if_pos c4] at hda
         try (simp [hlt, hlk, c3, c3', c4, c4'])
         repeat (refine sR ?_; simp [hlt, hlk, c3, c3', c4, c4'])
         refine sC ?_
         simp [c3, c3', c4, c4']
         try (simp)
         repeat (refine sR ?_; simp)
         refine sT ?_
         try simp only [AU]
         refine ⟨by simp, sF hbox htok (fun _ h => h) (Nat.le_refl _) ?_⟩
         simp [packA, hbad hda]
        ·have c4' : ¬ (25 : Int) < t.nodes[i].own[k].names.length := by omega
         rw [if_neg c4] at hda
         try (simp [hlt, hlk, c3, c3', c4, c4'])
         repeat (refine sR ?_; simp [hlt, hlk, c3, c3', c4, c4'])
         refine sC ?_
         simp [c3, c3', c4, c4']
         try (simp)
         repeat (refine sR ?_; simp)
         refine sN ?_
         refine AL.loopT (stFw3 t i n k t.nodes[i].own[k] nb box tok nt) (fun j => j ≤ t.nodes[i].own[k].names.length ∧ allP fewNm (t.nodes[i].own[k].names.take j) = true) (fun j => t.nodes[i].own[k].names.length - j) 0 ⟨Nat.zero_le _, rfl⟩ (Weaks.mk (Nat.le_refl _) rfl (by simp [ToL, lk, lb_at]) (by simp [BoxL, lk])) ?_
         rintro j S' ⟨hj, hnall⟩ hS
         simp only [stFw3] at hS
         subst hS
         have hwj := sW (i := j) (by omega)
         try (simp)
         repeat (refine sR ?_; simp)
         refine sC ?_
         simp
         refine ⟨fun hlj => ?_, fun hgej => ?_⟩
         ·have hnon := fun h => all_no (p := fewNm) hlj h
          have hyesn := fun h => all_more (p := fewNm) hlj hnall h
          by_cases c5 : 40 < t.nodes[i].own[k].names[j].size
          ·have c5' : (40 : Int) < t.nodes[i].own[k].names[j].size := by omega
           rw [hnon (by simp only [fewNm, decide_eq_false_iff_not]; omega)] at hda
           try (simp [hlj, c5, c5'])
           repeat (refine sR ?_; simp [hlj, c5, c5'])
           refine sC ?_
           simp [c5, c5']
           try (simp)
           repeat (refine sR ?_; simp)
           refine sT ?_
           try simp only [AU]
           refine ⟨by simp, sF hbox htok (fun _ h => h) (Nat.le_refl _) ?_⟩
           simp [packA, hbad hda]
          ·have c5' : ¬ (40 : Int) < t.nodes[i].own[k].names[j].size := by omega
           try (simp [hlj, c5, c5'])
           repeat (refine sR ?_; simp [hlj, c5, c5'])
           refine sC ?_
           simp [c5, c5']
           try (simp [hwj])
           repeat (refine sR ?_; simp [hwj])
           refine sE ?_
           exact ⟨j + 1, ⟨hlj, hyesn (by simp only [fewNm, decide_eq_true_eq]; omega)⟩, by omega, Weaks.mk (Nat.le_refl _) rfl (by simp [ToL, lk, lb_at]) (by simp [BoxL, lk])⟩
         ·refine sX ?_
          simp only [AU, ↓reduceIte]
          have : j = t.nodes[i].own[k].names.length := by omega
          subst this
          rw [List.take_length] at hnall
          rw [hnall] at hda
          try (simp [hwk])
          repeat (refine sR ?_; simp [hwk])
          refine sE ?_
          exact ⟨k + 1, ⟨hlk, hyes hda⟩, by omega, Weaks.mk (Nat.le_refl _) rfl (by simp [ToL, lk, lb_at]) (by simp [BoxL, lk])⟩
      ·refine sX ?_
       simp only [AU, ↓reduceIte]
       have : k = t.nodes[i].own.length := by omega
       subst this
       rw [List.take_length] at hall
       rw [if_pos hall] at hd
       try (simp [hw])
       repeat (refine sR ?_; simp [hw])
       refine sE ?_
       exact ⟨i + 1, ⟨hlt, by omega, hnx hd⟩, by omega, Weaks.mk (Nat.le_refl _) rfl (by simp [ToL, lk, lb_at, hsn]) (by simp [BoxL, lk])⟩
   ·refine sX ?_
    simp only [AU, ↓reduceIte]
    have : i = t.nodes.length := by omega
    subst this
    rw [if_neg (by simp [hok])] at hN
    try (simp)
    repeat (refine sR ?_; simp)
    refine sN ?_
    refine AL.loopT (stFw4 t nb box tok nt) (fun i => i ≤ t.edges.length ∧ allP fewEd (t.edges.take i) = true) (fun i => t.edges.length - i) 0 ⟨Nat.zero_le _, rfl⟩ (Weaks.mk (Nat.le_refl _) rfl (by simp [ToL, lk, lb_at]) (by simp [BoxL, lk])) ?_
    rintro i S' ⟨hi, hall⟩ hS
    simp only [stFw4] at hS
    subst hS
    have hw := sW (i := i) (by omega)
    try (simp)
    repeat (refine sR ?_; simp)
    refine sC ?_
    simp
    refine ⟨fun hlt => ?_, fun hge => ?_⟩
    ·have hno := fun h => all_no (p := fewEd) hlt h
     have hyes := fun h => all_more (p := fewEd) hlt hall h
     by_cases c5 : 40 < t.edges[i].name.size
     ·have c5' : (40 : Int) < t.edges[i].name.size := by omega
      rw [hno (by simp only [fewEd, decide_eq_false_iff_not]; omega)] at hN
      try (simp [hlt, c5, c5'])
      repeat (refine sR ?_; simp [hlt, c5, c5'])
      refine sC ?_
      simp [c5, c5']
      try (simp)
      repeat (refine sR ?_; simp)
      refine sT ?_
      try simp only [AU]
      refine ⟨by simp, sF hbox htok (fun _ h => h) (Nat.le_refl _) ?_⟩
      simp [packA, ← hN]
     ·have c5' : ¬ (40 : Int) < t.edges[i].name.size := by omega
      try (simp [hlt, c5, c5'])
      repeat (refine sR ?_; simp [hlt, c5, c5'])
      refine sC ?_
      simp [c5, c5']
      try (simp [hw])
      repeat (refine sR ?_; simp [hw])
      refine sE ?_
      exact ⟨i + 1, ⟨hlt, hyes (by simp only [fewEd, decide_eq_true_eq]; omega)⟩, by omega, Weaks.mk (Nat.le_refl _) rfl (by simp [ToL, lk, lb_at]) (by simp [BoxL, lk])⟩
    ·refine sX ?_
     simp only [AU, ↓reduceIte]
     have : i = t.edges.length := by omega
     subst this
     rw [List.take_length] at hall
     rw [hall] at hN
     try (simp)
     repeat (refine sR ?_; simp)
     refine sT ?_
     try simp only [AU]
     refine ⟨by simp, sF hbox htok (fun _ h => h) (Nat.le_refl _) ?_⟩
     simp [packA, ← hN]
end Go.AM
namespace Go.AM
open Go Go.Proofs Go.ChangeShapes
def rdStrs : Rdr Tryz.prog 105 (List ByteArray) := rdStr.sliceN 1 Tryz.underlying105 (by kernel_rfl) (by kernel_rfl)
abbrev AtT := ByteArray × Int × Int × List ByteArray
theorem rdAt_n (n : Nat) : RdF Tryz.prog 107 (fun x : AtT => rdStr.enc x.1 ++ (rdInt.enc x.2.1 ++ (rdInt.enc x.2.2.1 ++ rdStrs.enc x.2.2.2))) (fun x => rdStr.ok x.1 ∧ rdInt.ok x.2.1 ∧ rdInt.ok x.2.2.1 ∧ rdStrs.ok x.2.2.2) n := by
 cases n with
 | zero => exact .zero
 | succ n => exact RdF.struct4 (rdStr.f n) (rdInt.f n) (rdInt.f n) (rdStrs.f n) Tryz.underlying107 rfl rfl rfl rfl rfl (by kernel_rfl) (by kernel_rfl) (by kernel_rfl) (by kernel_rfl)
def rdAt0 : Rdr Tryz.prog 107 AtT := Rdr.ofF _ _ (fun x => by simp [rdStr.len, rdInt.len, rdStrs.len]; kernel_rfl) rdAt_n
theorem by_string : Tryz.prog.bytesOf 9 = 16 := by kernel_rfl
theorem by_attr : Tryz.prog.bytesOf 107 = 56 := by kernel_rfl
theorem by_node : Tryz.prog.bytesOf 82 = 56 := by kernel_rfl
theorem by_etype : Tryz.prog.bytesOf 84 = 64 := by kernel_rfl
theorem rdStrs_ok {l : List ByteArray} (h : rdStrs.ok l) : l.length ≤ bigN ∧ ∀ x ∈ l, x.size ≤ maxLen := by
 have h2 : l.length * Tryz.prog.bytesOf 9 ≤ reachBytes := h.2
 rw [by_string] at h2
 have : reachBytes = 140737488351232 := rfl
 exact ⟨by rw [bigN_eq]; omega, fun x hx => h.1 x hx⟩
def rdAt : Rdr Tryz.prog 107 At := rdAt0.map (fun x => ⟨x.1, x.2.1, x.2.2.1, x.2.2.2⟩) At.cells At.Big (fun _ => rfl) (fun x h => ⟨h.1, (rdStrs_ok h.2.2.2).1, (rdStrs_ok h.2.2.2).2⟩) (fun _ => by kernel_rfl)
def rdAts : Rdr Tryz.prog 80 (List At) := rdAt.sliceN 4 Tryz.underlying80 (by kernel_rfl) (by kernel_rfl)
abbrev NtT := ByteArray × Int × Bool × List At
theorem rdNt_n (n : Nat) : RdF Tryz.prog 82 (fun x : NtT => rdStr.enc x.1 ++ (rdInt.enc x.2.1 ++ (rdBool.enc x.2.2.1 ++ rdAts.enc x.2.2.2))) (fun x => rdStr.ok x.1 ∧ rdInt.ok x.2.1 ∧ rdBool.ok x.2.2.1 ∧ rdAts.ok x.2.2.2) n := by
 cases n with
 | zero => exact .zero
 | succ n => exact RdF.struct4 (rdStr.f n) (rdInt.f n) (rdBool.f n) (rdAts.f n) Tryz.underlying82 rfl rfl rfl rfl rfl (by kernel_rfl) (by kernel_rfl) (by kernel_rfl) (by kernel_rfl)
def rdNt0 : Rdr Tryz.prog 82 NtT := Rdr.ofF _ _ (fun x => by simp [rdStr.len, rdInt.len, rdBool.len, rdAts.len]; kernel_rfl) rdNt_n
theorem rdAts_ok {l : List At} (h : rdAts.ok l) : l.length ≤ bigN ∧ ∀ x ∈ l, x.Big := by
 have h2 : l.length * Tryz.prog.bytesOf 107 ≤ reachBytes := h.2
 rw [by_attr] at h2
 have : reachBytes = 140737488351232 := rfl
 exact ⟨by rw [bigN_eq]; omega, fun x hx => h.1 x hx⟩
def rdNt : Rdr Tryz.prog 82 NT := rdNt0.map (fun x => ⟨x.1, x.2.1, x.2.2.1, x.2.2.2⟩) NT.cells NT.Big (fun _ => rfl) (fun x h => ⟨h.1, (rdAts_ok h.2.2.2).1, (rdAts_ok h.2.2.2).2⟩) (fun _ => by kernel_rfl)
def rdNts : Rdr Tryz.prog 46 (List NT) := rdNt.sliceN 4 Tryz.underlying46 (by kernel_rfl) (by kernel_rfl)
abbrev EtT := ByteArray × Int × Int × Int × Int × Int × Int
theorem rdEt_n (n : Nat) : RdF Tryz.prog 84 (fun x : EtT => rdStr.enc x.1 ++ (rdInt.enc x.2.1 ++ (rdInt.enc x.2.2.1 ++ (rdInt.enc x.2.2.2.1 ++ (rdInt.enc x.2.2.2.2.1 ++ (rdInt.enc x.2.2.2.2.2.1 ++ rdInt.enc x.2.2.2.2.2.2)))))) (fun x => rdStr.ok x.1 ∧ rdInt.ok x.2.1 ∧ rdInt.ok x.2.2.1 ∧ rdInt.ok x.2.2.2.1 ∧ rdInt.ok x.2.2.2.2.1 ∧ rdInt.ok x.2.2.2.2.2.1 ∧ rdInt.ok x.2.2.2.2.2.2) n := by
 cases n with
 | zero => exact .zero
 | succ n => exact RdF.struct7 (rdStr.f n) (rdInt.f n) (rdInt.f n) (rdInt.f n) (rdInt.f n) (rdInt.f n) (rdInt.f n) Tryz.underlying84 rfl rfl rfl rfl rfl rfl rfl rfl (by kernel_rfl) (by kernel_rfl) (by kernel_rfl) (by kernel_rfl) (by kernel_rfl) (by kernel_rfl) (by kernel_rfl)
def rdEt0 : Rdr Tryz.prog 84 EtT := Rdr.ofF _ _ (fun x => by simp [rdStr.len, rdInt.len]; kernel_rfl) rdEt_n
def rdEt : Rdr Tryz.prog 84 ET := rdEt0.map (fun x => ⟨x.1, x.2.1, x.2.2.1, x.2.2.2.1, x.2.2.2.2.1, x.2.2.2.2.2.1, x.2.2.2.2.2.2⟩) ET.cells (fun e => e.name.size ≤ maxLen) (fun _ => rfl) (fun x h => h.1) (fun _ => by kernel_rfl)
def rdEts : Rdr Tryz.prog 47 (List ET) := rdEt.sliceN 7 Tryz.underlying47 (by kernel_rfl) (by kernel_rfl)
def rdTy0 : Rdr Tryz.prog 49 (List NT × List ET) := Rdr.struct2 rdNts rdEts Tryz.underlying49 rfl rfl rfl (by kernel_rfl) (by kernel_rfl)
theorem rdTy_ok {l : List NT} {m : List ET} (h : rdNts.ok l) (k : rdEts.ok m) : (Ty.mk l m).Big := by
 have h2 : l.length * Tryz.prog.bytesOf 82 ≤ reachBytes := h.2
 have k2 : m.length * Tryz.prog.bytesOf 84 ≤ reachBytes := k.2
 rw [by_node] at h2
 rw [by_etype] at k2
 have : reachBytes = 140737488351232 := rfl
 exact ⟨by rw [bigN_eq]; simp only; omega, by rw [bigN_eq]; simp only; omega, fun x hx => h.1 x hx, fun x hx => k.1 x hx⟩
def rdTy : Rdr Tryz.prog 49 Ty := rdTy0.map (fun x => ⟨x.1, x.2⟩) (fun x => [nts x.nodes, ets x.edges]) Ty.Big (fun _ => rfl) (fun x h => rdTy_ok h.1 h.2) (fun _ => by kernel_rfl)
set_option maxRecDepth 100000 in
theorem arg_types {ps : Array TypeId} {args : Array Value} {W : World} {base base' : Nat} {sp : Nat → Bool} {held : Bool} {H : Type} {enc : TypeId × Value → H} (hval : ∀ (j : Nat) t v, ps[j]? = some t → args[j]? = some v → Value.okWide Tryz.prog W .any base t v)
  (j : Nat) (v : Value) (hp : ps[j]? = some 49) (ha : args[j]? = some v) {d : DataW H} {p : List MemPlace} (h : DataW.Trod enc Tryz.prog W base' sp held 49 v d p) (hli : Light Tryz.prog 49 d) : ∃ x : Ty, x.Big ∧ RV G0 W x.av v :=
 Exists.elim (arg_agg hval j 49 v hp ha rdTy aggT_49 h hli) fun x hx => ⟨x, hx.1, hx.2⟩
end Go.AM
namespace Go.AM
open Go Go.Proofs
def dngAt (g : Gr) (es gone : List Int) (i : Nat) : Int :=
 if (i : Int) ∈ es then 0 else if (g.edges.getD i default).fr ∈ gone then 1 else if (g.edges.getD i default).to ∈ gone then 1 else 0
def dngB (g : Gr) (es gone : List Int) : Bool := firstE (dngAt g es gone) g.edges.length != 0
theorem dngAt_eq {g : Gr} {es gone : List Int} {i : Nat} (h : i < g.edges.length) : dngAt g es gone i = if (i : Int) ∈ es then 0 else if g.edges[i].fr ∈ gone then 1 else if g.edges[i].to ∈ gone then 1 else 0 := by simp [dngAt, h]
def stTh (l by' : List Int) (nb : Nat) (box : Nat → Option (List (List AV))) (x : Acc) : AState := ⟨tl [(11, I x.i), (10, I l.length), (9, .d (ints l)), (1, .d (ints by')), (5, .osl 1 (rI (byK l by' x.i)) x.own)], lb nb box [], x.tok, x.nt⟩
theorem throughP_c (l by' : List Int) (h2 : l.length ≤ 1000000) (hr : ∀ x ∈ l, 0 ≤ x ∧ x < by'.length) (tok : Nat → Bool) (nt : Nat) : DCall Tryz.prog 130 [.d (ints l), .d (ints by')] tok nt (.d (ints (byK l by' l.length))) tok nt := by
 intro box nb
 refine sB Tryz.func130 Tryz.ntmps130 ?_
 intro hbox htok
 simp only at hbox htok
 apply AL.start
 try (simp)
 repeat (refine sR ?_; simp)
 refine sN ?_
 refine AL.loopT (stTh l by' nb box) (fun x => x.i ≤ l.length ∧ TK tok nt x.tok x.nt [x.own]) (fun x => l.length - x.i) ⟨0, .full, tok, nt⟩ ⟨Nat.zero_le _, (TK.start htok).full⟩ (Weaks.mk (Nat.le_refl _) rfl (by simp [ToL, lk, byK]) trivial) ?_
 rintro ⟨i, own, tok', nt'⟩ S ⟨hi, htk⟩ hS
 simp only [stTh] at hS hi htk
 subst hS
 have hw := sW (i := i) (by omega)
 try (simp)
 repeat (refine sR ?_; simp)
 refine sC ?_
 simp
 refine ⟨fun hlt => ?_, fun hge => ?_⟩
 ·have hx := hr _ (List.getElem_mem hlt)
  obtain ⟨a, ha⟩ := Int.eq_ofNat_of_zero_le hx.1
  have hal : a < by'.length := by omega
  have hst : byK l by' (i + 1) = byK l by' i ++ [by'[a]] := by
   rw [byK, List.take_succ_eq_append_getElem hlt, List.map_append, byK]
   simp [ha, hal]
  have hlen : (byK l by' i).length ≤ i := by simp [byK]; omega
  generalize hK : byK l by' (i + 1) = K2 at *
  generalize byK l by' i = K at *
  try (simp [hlt, ha, hal])
  repeat (refine sR ?_; simp [hlt, ha, hal])
  refine ⟨⟨by omega, htk.live⟩, ?_⟩
  try (simp [hw])
  repeat (refine sR ?_; simp [hw])
  refine sE ?_
  refine ⟨⟨i + 1, _, _, _⟩, ⟨hlt, htk.app⟩, by simp only; omega, ?_⟩
  simp only [stTh, hK, hst]
  exact Weaks.mk htk.app.le rfl (by simp [ToL, lk, rI]) trivial
 ·refine sX ?_
  simp only [AU, ↓reduceIte]
  have : i = l.length := by omega
  subst this
  try (simp)
  repeat (refine sR ?_; simp)
  refine sT ?_
  try simp only [AU]
  refine ⟨by simp, sF hbox htok htk.old htk.le ?_⟩
  simp [packA, ints]
def stDg (g : Gr) (es gone : List Int) (nb : Nat) (box : Nat → Option (List (List AV))) (tok : Nat → Bool) (nt : Nat) (i : Nat) : AState :=
 ⟨tl [(12, I i), (11, I g.edges.length), (10, .d (AM.edges g.edges)), (1, .d (ints es)), (2, .d (ints gone))], lb nb box [], tok, nt⟩
theorem dangles_c (g : Gr) (hg : g.Fit) (es gone : List Int) (h1 : es.length ≤ 1000000) (h2 : gone.length ≤ 1000000) (tok : Nat → Bool) (nt : Nat) : DCall Tryz.prog 131 [g.av, .d (ints es), .d (ints gone)] tok nt (B (dngB g es gone)) tok nt := by
 intro box nb
 have hge := hg.e
 obtain ⟨N, hN⟩ : ∃ N, dngB g es gone = N := ⟨_, rfl⟩
 rw [hN]
 unfold dngB at hN
 refine sB Tryz.func131 Tryz.ntmps131 ?_
 intro hbox htok
 simp only at hbox htok
 apply AL.start
 try (simp)
 repeat (refine sR ?_; simp)
 refine sN ?_
 refine AL.loopT (stDg g es gone nb box tok nt) (fun i => i ≤ g.edges.length ∧ firstE (dngAt g es gone) i = 0) (fun i => g.edges.length - i) 0 ⟨Nat.zero_le _, rfl⟩ (Weaks.mk (Nat.le_refl _) rfl (by simp [ToL, lk]) trivial) ?_
 rintro i S ⟨hi, hok⟩ hS
 simp only [stDg] at hS
 subst hS
 have hw := sW (i := i) (by omega)
 try (simp)
 repeat (refine sR ?_; simp)
 refine sC ?_
 simp
 refine ⟨fun hlt => ?_, fun hge => ?_⟩
 ·have hd := dngAt_eq (es := es) (gone := gone) hlt
  have hR : dngAt g es gone i = 1 → N = true := fun h => by rw [← hN, firstE_stop hok (by rw [h]; decide) _ hlt, h]; rfl
  have hnx : dngAt g es gone i = 0 → firstE (dngAt g es gone) (i + 1) = 0 := fun h0 => by simp only [firstE, hok, h0, ↓reduceIte]
  have q1 := contains_c es i h1
  have q2 := contains_c gone g.edges[i].fr h2
  have q3 := contains_c gone g.edges[i].to h2
  by_cases m1 : (i : Int) ∈ es
  ·rw [if_pos m1] at hd
   simp only [m1, decide_true] at q1
   try (simp [hlt])
   repeat (refine sR ?_; simp [hlt])
   refine Stop.of_d (q1 _ _) ?_
   simp
   try (simp)
   repeat (refine sR ?_; simp)
   refine sC ?_
   simp
   try (simp [hw])
   repeat (refine sR ?_; simp [hw])
   refine sE ?_
   exact ⟨i + 1, ⟨hlt, hnx hd⟩, by omega, Weaks.mk (Nat.le_refl _) rfl (by simp [ToL, lk]) trivial⟩
  ·rw [if_neg m1] at hd
   simp only [m1, decide_false] at q1
   by_cases m2 : g.edges[i].fr ∈ gone
   ·rw [if_pos m2] at hd
    simp only [m2, decide_true] at q2
    try (simp [hlt])
    repeat (refine sR ?_; simp [hlt])
    refine Stop.of_d (q1 _ _) ?_
    simp
    try (simp [hlt])
    repeat (refine sR ?_; simp [hlt])
    refine Stop.of_d (q2 _ _) ?_
    simp
    try (simp)
    repeat (refine sR ?_; simp)
    refine sC ?_
    simp
    try (simp)
    repeat (refine sR ?_; simp)
    refine sT ?_
    try simp only [AU]
    refine ⟨by simp, sF hbox htok (fun _ h => h) (Nat.le_refl _) ?_⟩
    simp [packA, hR hd]
   ·rw [if_neg m2] at hd
    simp only [m2, decide_false] at q2
    by_cases m3 : g.edges[i].to ∈ gone
    ·rw [if_pos m3] at hd
     simp only [m3, decide_true] at q3
     try (simp [hlt])
     repeat (refine sR ?_; simp [hlt])
     refine Stop.of_d (q1 _ _) ?_
     simp
     try (simp [hlt])
     repeat (refine sR ?_; simp [hlt])
     refine Stop.of_d (q2 _ _) ?_
     simp
     try (simp [hlt])
     repeat (refine sR ?_; simp [hlt])
     refine Stop.of_d (q3 _ _) ?_
     simp
     try (simp)
     repeat (refine sR ?_; simp)
     refine sC ?_
     simp
     try (simp)
     repeat (refine sR ?_; simp)
     refine sT ?_
     try simp only [AU]
     refine ⟨by simp, sF hbox htok (fun _ h => h) (Nat.le_refl _) ?_⟩
     simp [packA, hR hd]
    ·rw [if_neg m3] at hd
     simp only [m3, decide_false] at q3
     try (simp [hlt])
     repeat (refine sR ?_; simp [hlt])
     refine Stop.of_d (q1 _ _) ?_
     simp
     try (simp [hlt])
     repeat (refine sR ?_; simp [hlt])
     refine Stop.of_d (q2 _ _) ?_
     simp
     try (simp [hlt])
     repeat (refine sR ?_; simp [hlt])
     refine Stop.of_d (q3 _ _) ?_
     simp
     try (simp)
     repeat (refine sR ?_; simp)
     refine sC ?_
     simp
     try (simp [hw])
     repeat (refine sR ?_; simp [hw])
     refine sE ?_
     exact ⟨i + 1, ⟨hlt, hnx hd⟩, by omega, Weaks.mk (Nat.le_refl _) rfl (by simp [ToL, lk]) trivial⟩
 ·refine sX ?_
  simp only [AU, ↓reduceIte]
  have : i = g.edges.length := by omega
  subst this
  rw [hok] at hN
  try (simp)
  repeat (refine sR ?_; simp)
  refine sT ?_
  try simp only [AU]
  refine ⟨by simp, sF hbox htok (fun _ h => h) (Nat.le_refl _) ?_⟩
  simp [packA, ← hN]
def stDr (g : Gr) (es gone : List Int) (nb : Nat) (box : Nat → Option (List (List AV))) (tok : Nat → Bool) (nt : Nat) (i : Nat) : AState :=
 ⟨tl [(7, I i), (3, .ptr (nb + 3) 0 0), (1, .d (ints es)), (2, .d (ints gone))], lb nb box [(3, [[.d (ints g.nodes), .d (AM.edges g.edges)]])], tok, nt⟩
theorem dangles34_c (g : Gr) (hg : g.Fit) (es gone : List Int) (h1 : es.length ≤ 1000000) (h2 : gone.length ≤ 1000000) (tok : Nat → Bool) (nt : Nat) : DCall Tryz.prog 135 [g.av, .d (ints es), .d (ints gone)] tok nt (B (dngB g es gone)) tok nt := by
 intro box nb
 have hge := hg.e
 obtain ⟨N, hN⟩ : ∃ N, dngB g es gone = N := ⟨_, rfl⟩
 rw [hN]
 unfold dngB at hN
 refine sB Tryz.func135 Tryz.ntmps135 ?_
 intro hbox htok
 simp only at hbox htok
 apply AL.start
 try (simp)
 repeat (refine sR ?_; simp)
 refine sN ?_
 refine AL.loopT (stDr g es gone nb box tok nt) (fun i => i ≤ g.edges.length ∧ firstE (dngAt g es gone) i = 0) (fun i => g.edges.length - i) 0 ⟨Nat.zero_le _, rfl⟩ (Weaks.mk (Nat.le_refl _) rfl (by simp [ToL, lk, lb_at]) (by simp [BoxL, lk])) ?_
 rintro i S ⟨hi, hok⟩ hS
 simp only [stDr] at hS
 subst hS
 have hw := sW (i := i) (by omega)
 try (simp)
 repeat (refine sR ?_; simp)
 refine sC ?_
 simp
 refine ⟨fun hlt => ?_, fun hge => ?_⟩
 ·have hd := dngAt_eq (es := es) (gone := gone) hlt
  have hR : dngAt g es gone i = 1 → N = true := fun h => by rw [← hN, firstE_stop hok (by rw [h]; decide) _ hlt, h]; rfl
  have hnx : dngAt g es gone i = 0 → firstE (dngAt g es gone) (i + 1) = 0 := fun h0 => by simp only [firstE, hok, h0, ↓reduceIte]
  have q1 := at34_c es i h1
  have q2 := at34_c gone g.edges[i].fr h2
  have q3 := at34_c gone g.edges[i].to h2
  by_cases m1 : (i : Int) ∈ es
  ·rw [if_pos m1] at hd
   simp only [m1, decide_true] at q1
   try (simp [hlt])
   repeat (refine sR ?_; simp [hlt])
   refine Stop.of_d (q1 _ _) ?_
   simp
   try (simp)
   repeat (refine sR ?_; simp)
   refine sC ?_
   simp
   try (simp [hw])
   repeat (refine sR ?_; simp [hw])
   refine sE ?_
   exact ⟨i + 1, ⟨hlt, hnx hd⟩, by omega, Weaks.mk (Nat.le_refl _) rfl (by simp [ToL, lk, lb_at]) (by simp [BoxL, lk])⟩
  ·rw [if_neg m1] at hd
   simp only [m1, decide_false] at q1
   by_cases m2 : g.edges[i].fr ∈ gone
   ·rw [if_pos m2] at hd
    simp only [m2, decide_true] at q2
    try (simp [hlt])
    repeat (refine sR ?_; simp [hlt])
    refine Stop.of_d (q1 _ _) ?_
    simp
    try (simp [hlt])
    repeat (refine sR ?_; simp [hlt])
    refine Stop.of_d (q2 _ _) ?_
    simp
    try (simp)
    repeat (refine sR ?_; simp)
    refine sC ?_
    simp
    try (simp)
    repeat (refine sR ?_; simp)
    refine sT ?_
    try simp only [AU]
    refine ⟨by simp, sF hbox htok (fun _ h => h) (Nat.le_refl _) ?_⟩
    simp [packA, hR hd]
   ·rw [if_neg m2] at hd
    simp only [m2, decide_false] at q2
    by_cases m3 : g.edges[i].to ∈ gone
    ·rw [if_pos m3] at hd
     simp only [m3, decide_true] at q3
     try (simp [hlt])
     repeat (refine sR ?_; simp [hlt])
     refine Stop.of_d (q1 _ _) ?_
     simp
     try (simp [hlt])
     repeat (refine sR ?_; simp [hlt])
     refine Stop.of_d (q2 _ _) ?_
     simp
     try (simp [hlt])
     repeat (refine sR ?_; simp [hlt])
     refine Stop.of_d (q3 _ _) ?_
     simp
     try (simp)
     repeat (refine sR ?_; simp)
     refine sC ?_
     simp
     try (simp)
     repeat (refine sR ?_; simp)
     refine sT ?_
     try simp only [AU]
     refine ⟨by simp, sF hbox htok (fun _ h => h) (Nat.le_refl _) ?_⟩
     simp [packA, hR hd]
    ·rw [if_neg m3] at hd
     simp only [m3, decide_false] at q3
     try (simp [hlt])
     repeat (refine sR ?_; simp [hlt])
     refine Stop.of_d (q1 _ _) ?_
     simp
     try (simp [hlt])
     repeat (refine sR ?_; simp [hlt])
     refine Stop.of_d (q2 _ _) ?_
     simp
     try (simp [hlt])
     repeat (refine sR ?_; simp [hlt])
     refine Stop.of_d (q3 _ _) ?_
     simp
     try (simp)
     repeat (refine sR ?_; simp)
     refine sC ?_
     simp
     try (simp [hw])
     repeat (refine sR ?_; simp [hw])
     refine sE ?_
     exact ⟨i + 1, ⟨hlt, hnx hd⟩, by omega, Weaks.mk (Nat.le_refl _) rfl (by simp [ToL, lk, lb_at]) (by simp [BoxL, lk])⟩
 ·refine sX ?_
  simp only [AU, ↓reduceIte]
  have : i = g.edges.length := by omega
  subst this
  rw [hok] at hN
  try (simp)
  repeat (refine sR ?_; simp)
  refine sT ?_
  try simp only [AU]
  refine ⟨by simp, sF hbox htok (fun _ h => h) (Nat.le_refl _) ?_⟩
  simp [packA, ← hN]
end Go.AM
namespace Go.AM
open Go Go.Proofs
abbrev yesC : Cd := cdOf 1 []
def hd1 (c : Cd) : Int := (c.kids.getD 0 (cdOf 0 [])).kind
def isNoB (c : Cd) : Bool := if c.kind = 2 then (hd1 c == 1) else false
def isYesB (c : Cd) : Bool := c.kind == 1
theorem isNo_c (c : Cd) (h : c.kind = 2 → 0 < c.kids.length) (tok : Nat → Bool) (nt : Nat) : DCall Tryz.prog 194 [c.av] tok nt (B (isNoB c)) tok nt := by
 intro box nb
 by_cases k2 : c.kind = 2
 ·have hl := h k2
  have hb : isNoB c = (c.kids[0].kind == 1) := by simp [isNoB, k2, hd1, hl]
  rw [hb]
  refine sB Tryz.func194 Tryz.ntmps194 ?_
  intro hbox htok
  simp only at hbox htok
  apply AL.start
  try (simp [k2, hl, Cd.cells_eq])
  repeat (refine sR ?_; simp [k2, hl, Cd.cells_eq])
  refine sT ?_
  try simp only [AU]
  refine ⟨by simp, sF hbox htok (fun _ h => h) (Nat.le_refl _) ?_⟩
  simp [packA]
 ·have hb : isNoB c = false := by simp [isNoB, k2]
  have k2' : (c.kind == 2) = false := by simp [k2]
  rw [hb]
  refine sB Tryz.func194 Tryz.ntmps194 ?_
  intro hbox htok
  simp only at hbox htok
  apply AL.start
  try (simp [k2'])
  repeat (refine sR ?_; simp [k2'])
  refine sT ?_
  try simp only [AU]
  refine ⟨by simp, sF hbox htok (fun _ h => h) (Nat.le_refl _) ?_⟩
  simp [packA]
theorem red1_c (c : Cd) (tok : Nat → Bool) (nt : Nat) : DCall Tryz.prog 196 [c.av] tok nt (B (isYesB c)) tok nt := by
 intro box nb
 refine sB Tryz.func196 Tryz.ntmps196 ?_
 intro hbox htok
 simp only at hbox htok
 apply AL.start
 try (simp)
 repeat (refine sR ?_; simp)
 refine sT ?_
 try simp only [AU]
 refine ⟨by simp, sF hbox htok (fun _ h => h) (Nat.le_refl _) ?_⟩
 simp [packA, isYesB]
theorem red2_c (c : Cd) (tok : Nat → Bool) (nt : Nat) : DCall Tryz.prog 197 [c.av] tok nt (B (isYesB c)) tok nt := by
 intro box nb
 refine sB Tryz.func197 Tryz.ntmps197 ?_
 intro hbox htok
 simp only at hbox htok
 apply AL.start
 try (simp)
 repeat (refine sR ?_; simp)
 refine sT ?_
 try simp only [AU]
 refine ⟨by simp, sF hbox htok (fun _ h => h) (Nat.le_refl _) ?_⟩
 simp [packA, isYesB]
def isFalseB (c : Cd) : Bool := if c.kind = 2 then (if c.kids.length = 1 then (hd1 c == 1) else false) else false
theorem isFalse_c (c : Cd) (hl : c.kids.length ≤ kidN) (tok : Nat → Bool) (nt : Nat) : DCall Tryz.prog 134 [c.av] tok nt (B (isFalseB c)) tok nt := by
 intro box nb
 by_cases k2 : c.kind = 2
 ·by_cases l1 : c.kids.length = 1
  ·have hl0 : 0 < c.kids.length := by omega
   have hb : isFalseB c = (c.kids[0].kind == 1) := by simp [isFalseB, k2, hd1, l1]
   rw [hb]
   refine sB Tryz.func134 Tryz.ntmps134 ?_
   intro hbox htok
   simp only at hbox htok
   apply AL.start
   try (simp [k2, l1, hl0, Cd.cells_eq])
   repeat (refine sR ?_; simp [k2, l1, hl0, Cd.cells_eq])
   refine sT ?_
   try simp only [AU]
   refine ⟨by simp, sF hbox htok (fun _ h => h) (Nat.le_refl _) ?_⟩
   simp [packA]
  ·have hb : isFalseB c = false := by simp [isFalseB, k2, l1]
   have l1' : ((c.kids.length : Int) == 1) = false := by simp; omega
   rw [hb]
   refine sB Tryz.func134 Tryz.ntmps134 ?_
   intro hbox htok
   simp only at hbox htok
   apply AL.start
   try (simp [k2, l1, l1'])
   repeat (refine sR ?_; simp [k2, l1, l1'])
   refine sT ?_
   try simp only [AU]
   refine ⟨by simp, sF hbox htok (fun _ h => h) (Nat.le_refl _) ?_⟩
   simp [packA]
 ·have hb : isFalseB c = false := by simp [isFalseB, k2]
  have k2' : (c.kind == 2) = false := by simp [k2]
  rw [hb]
  refine sB Tryz.func134 Tryz.ntmps134 ?_
  intro hbox htok
  simp only at hbox htok
  apply AL.start
  try (simp [k2'])
  repeat (refine sR ?_; simp [k2'])
  refine sT ?_
  try simp only [AU]
  refine ⟨by simp, sF hbox htok (fun _ h => h) (Nat.le_refl _) ?_⟩
  simp [packA]
def lstR (k : Int) (e : Cd) (K : List Cd) : Cd := if K.length = 0 then e else if K.length = 1 then K.getD 0 e else cdOf k K
def listS (c e w : Cd) (neu abs : Cd → Bool) : Cd := if anyB abs c.kids = true then w else lstR c.kind e (c.kids.filter fun x => !neu x)
def filK (neu : Cd → Bool) (l : List Cd) (i : Nat) : List Cd := (l.take i).filter fun x => !neu x
theorem filK_succ {neu : Cd → Bool} {l : List Cd} {i : Nat} (h : i < l.length) : filK neu l (i + 1) = if neu l[i] = true then filK neu l i else filK neu l i ++ [l[i]] := by
 rw [filK, List.take_succ_eq_append_getElem h, List.filter_append, filK]
 cases e : neu l[i] <;> simp [e]
theorem filK_len (neu : Cd → Bool) (l : List Cd) (i : Nat) : (filK neu l i).length ≤ i := Nat.le_trans (List.length_filter_le _ _) (by rw [List.length_take]; omega)
abbrev zRow : List AV := [z0i, nilS, nilS, nilS, nilS, nilS, nilS, z0i, nilS]
def stLs (c e w : Cd) (neu : Cd → Bool) (fn fa : FuncId) (nb : Nat) (box : Nat → Option (List (List AV))) (i : Nat) (K : List Cd) (x : Acc) : AState :=
 ⟨tl [(17, I i), (16, I c.kids.length), (15, .d (conds c.kids)), (11, .osl 9 (K.map Cd.cells) x.own), (10, .ptr (nb + 10) 0 0), (7, .ptr (nb + 7) 0 0), (6, .ptr (nb + 6) 0 0), (5, .ptr (nb + 5) 0 0), (3, .fn (.func fn) []), (4, .fn (.func fa) [])], lb nb box [(7, [w.row]), (6, [e.row]), (5, [c.row]), (10, [zRow])], x.tok, x.nt⟩
theorem fn_to {p q : Nat → Prop} {f : FuncId} : To p q none (.fn (.func f) []) (.fn (.func f) []) := .same (.fn (by simp))
theorem lst34_c (c e w : Cd) (hc : c.Fit) (neu abs : Cd → Bool) (fn fa : FuncId) (hn : ∀ x ∈ c.kids, ∀ tok nt, DCall Tryz.prog fn [x.av] tok nt (B (neu x)) tok nt) (ha : ∀ x ∈ c.kids, ∀ tok nt, DCall Tryz.prog fa [x.av] tok nt (B (abs x)) tok nt) (tok : Nat → Bool) (nt : Nat) :
  DCall Tryz.prog 195 [c.av, e.av, w.av, .fn (.func fn) [], .fn (.func fa) []] tok nt (listS c e w neu abs).av tok nt := by
 intro box nb
 have hkl := hc.kids
 obtain ⟨N, hN⟩ : ∃ N, listS c e w neu abs = N := ⟨_, rfl⟩
 rw [hN]
 unfold listS at hN
 refine sB Tryz.func195 Tryz.ntmps195 ?_
 intro hbox htok
 simp only at hbox htok
 apply AL.start
 try (simp)
 repeat (refine sR ?_; simp)
 refine sN ?_
 have hkl2 := hkl
 rw [kidN_eq] at hkl2
 refine AL.loopT (fun x => stLs c e w neu fn fa nb box x.i (filK neu c.kids x.i) x) (fun x => x.i ≤ c.kids.length ∧ allP (fun y => !abs y) (c.kids.take x.i) = true ∧ TK tok nt x.tok x.nt [x.own]) (fun x => c.kids.length - x.i) ⟨0, .full, tok, nt⟩ ⟨Nat.zero_le _, rfl, (TK.start htok).full⟩ (Weaks.mk (Nat.le_refl _) rfl (by simp [ToL, lk, lb_at, filK, fn_to]) (by simp [BoxL, lk])) ?_
 rintro ⟨i, own, tok', nt'⟩ S ⟨hi, hall, htk⟩ hS
 simp only [stLs] at hS hi htk hall
 subst hS
 have hw := sW (i := i) (by omega)
 have hKl := filK_len neu c.kids i
 try (simp)
 repeat (refine sR ?_; simp)
 refine sC ?_
 simp
 refine ⟨fun hlt => ?_, fun hge => ?_⟩
 ·have hmem := List.getElem_mem hlt
  have q1 := ha _ hmem
  have q2 := hn _ hmem
  have hst := filK_succ (neu := neu) hlt
  have hmore := fun h => all_more (p := fun y => !abs y) hlt hall h
  generalize hK2 : filK neu c.kids (i + 1) = K2 at *
  generalize filK neu c.kids i = K at *
  try (simp [hlt, Cd.cells_eq])
  repeat (refine sR ?_; simp [hlt, Cd.cells_eq])
  refine Stop.of_d (q1 _ _) ?_
  simp
  cases e1 : abs c.kids[i]
  ·try (simp)
   repeat (refine sR ?_; simp)
   refine sC ?_
   simp
   try (simp)
   repeat (refine sR ?_; simp)
   refine Stop.of_d (q2 _ _) ?_
   simp
   cases e2 : neu c.kids[i]
   ·rw [e2, if_neg (by simp)] at hst
    try (simp)
    repeat (refine sR ?_; simp)
    refine sC ?_
    simp
    try (simp)
    repeat (refine sR ?_; simp)
    refine ⟨⟨by omega, htk.live⟩, ?_⟩
    try (simp [hw])
    repeat (refine sR ?_; simp [hw])
    refine sE ?_
    refine ⟨⟨i + 1, _, _, _⟩, ⟨hlt, hmore (by simp only [e1]; rfl), htk.app⟩, by simp only; omega, ?_⟩
    simp only [hK2, hst]
    exact Weaks.mk htk.app.le rfl (by simp [ToL, lk, lb_at, fn_to, Cd.cells_eq]) (by simp [BoxL, lk])
   ·rw [e2, if_pos rfl] at hst
    try (simp)
    repeat (refine sR ?_; simp)
    refine sC ?_
    simp
    try (simp [hw])
    repeat (refine sR ?_; simp [hw])
    refine sE ?_
    refine ⟨⟨i + 1, own, tok', nt'⟩, ⟨hlt, hmore (by simp only [e1]; rfl), htk⟩, by simp only; omega, ?_⟩
    simp only [hK2, hst]
    exact Weaks.mk htk.le rfl (by simp [ToL, lk, lb_at, fn_to]) (by simp [BoxL, lk])
  ·have : anyB abs c.kids = true := List.any_eq_true.2 ⟨_, hmem, e1⟩
   rw [if_pos this] at hN
   try (simp)
   repeat (refine sR ?_; simp)
   refine sC ?_
   simp
   try (simp)
   repeat (refine sR ?_; simp)
   refine sT ?_
   try simp only [AU]
   refine ⟨by simp, sF hbox htok htk.old htk.le ?_⟩
   simp [packA, ← hN]
 ·refine sX ?_
  simp only [AU, ↓reduceIte]
  have hil : i = c.kids.length := by omega
  have hany : anyB abs c.kids = false := by
   rw [List.take_of_length_le hge, allP_iff] at hall
   rw [← Bool.not_eq_true, anyB, List.any_eq_true]
   rintro ⟨x, hx, h⟩
   have := hall x hx
   rw [h] at this
   cases this
  have hf : (c.kids.filter fun x => !neu x) = filK neu c.kids i := by rw [filK, List.take_of_length_le hge]
  rw [hany, if_neg (by simp), hf] at hN
  generalize filK neu c.kids i = K at *
  unfold lstR at hN
  by_cases k0 : K.length = 0
  ·have k0' : K = [] := List.length_eq_zero_iff.1 k0
   rw [if_pos k0] at hN
   try (simp [k0'])
   repeat (refine sR ?_; simp [k0'])
   refine sC ?_
   simp [k0']
   try (simp)
   repeat (refine sR ?_; simp)
   refine sT ?_
   try simp only [AU]
   refine ⟨by simp, sF hbox htok htk.old htk.le ?_⟩
   simp [packA, ← hN]
  ·have k0' : ¬ K = [] := fun h => k0 (by rw [h]; rfl)
   have k0i : ((K.length : Int) == 0) = false := by simp [k0']
   rw [if_neg k0] at hN
   by_cases k1 : K.length = 1
   ·have hl0 : 0 < K.length := by omega
    rw [if_pos k1, show K.getD 0 e = K[0] by simp [hl0]] at hN
    try (simp [k0i])
    repeat (refine sR ?_; simp [k0i])
    refine sC ?_
    simp [k0i]
    try (simp [k1])
    repeat (refine sR ?_; simp [k1])
    refine sC ?_
    simp [k1]
    try (simp [hl0, Cd.cells_eq])
    repeat (refine sR ?_; simp [hl0, Cd.cells_eq])
    refine sT ?_
    try simp only [AU]
    refine ⟨by simp, sF hbox htok htk.old htk.le ?_⟩
    simp [packA, ← hN]
   ·have k1i : ((K.length : Int) == 1) = false := by simp; omega
    rw [if_neg k1] at hN
    try (simp [k0i])
    repeat (refine sR ?_; simp [k0i])
    refine sC ?_
    simp [k0i]
    try (simp [k1i])
    repeat (refine sR ?_; simp [k1i])
    refine sC ?_
    simp [k1i]
    try (simp)
    repeat (refine sR ?_; simp)
    refine sT ?_
    try simp only [AU]
    refine ⟨by simp, sF hbox htok htk.old htk.le ?_⟩
    simp [packA, ← hN, cdOf, Cd.kind, Cd.kids, Cd.m, Cd.g, Cd.sl, Cd.vars, Cd.te, conds, ints, AM.edges, slots, tests]
end Go.AM
namespace Go.AM
open Go Go.Proofs
def redS (c : Cd) : Cd :=
 if c.kind = 2 then (if isNoB (c.kids.getD 0 (cdOf 0 [])) = true then yesC else c)
 else if c.kind = 3 then listS c yesC noC isYesB isNoB
 else if c.kind = 4 then listS c noC yesC isNoB isYesB
 else if c.kind = 5 then (if isNoB (c.kids.getD 0 (cdOf 0 [])) = true then noC else c)
 else c
theorem reduced_c (c : Cd) (hc : c.Fit) (h1 : c.kind = 2 ∨ c.kind = 5 → 0 < c.kids.length) (h2 : ∀ x ∈ c.kids, x.kind = 2 → 0 < x.kids.length) (tok : Nat → Bool) (nt : Nat) : DCall Tryz.prog 133 [c.av] tok nt (redS c).av tok nt := by
 intro box nb
 have hno := fun x hx => isNo_c x (h2 x hx)
 have l3 := lst34_c c yesC noC hc isYesB isNoB 196 194 (fun x hx tok nt => red1_c x tok nt) (fun x hx tok nt => hno x hx tok nt)
 have l4 := lst34_c c noC yesC hc isNoB isYesB 194 197 (fun x hx tok nt => hno x hx tok nt) (fun x hx tok nt => red2_c x tok nt)
 obtain ⟨N, hN⟩ : ∃ N, redS c = N := ⟨_, rfl⟩
 rw [hN]
 unfold redS at hN
 by_cases k2 : c.kind = 2
 ·have hl := h1 (.inl k2)
  have q := hno c.kids[0] (List.getElem_mem hl)
  rw [if_pos k2, show c.kids.getD 0 (cdOf 0 []) = c.kids[0] by simp [hl]] at hN
  refine sB Tryz.func133 Tryz.ntmps133 ?_
  intro hbox htok
  simp only at hbox htok
  apply AL.start
  try (simp [k2])
  repeat (refine sR ?_; simp [k2])
  refine sC ?_
  simp [k2]
  try (simp [hl, Cd.cells_eq])
  repeat (refine sR ?_; simp [hl, Cd.cells_eq])
  refine Stop.of_d (q _ _) ?_
  simp
  cases e : isNoB c.kids[0]
  ·rw [e, if_neg (by simp)] at hN
   try (simp)
   repeat (refine sR ?_; simp)
   refine sC ?_
   simp
   try (simp)
   repeat (refine sR ?_; simp)
   refine sT ?_
   try simp only [AU]
   refine ⟨by simp, sF hbox htok (fun _ h => h) (Nat.le_refl _) ?_⟩
   simp [packA, ← hN]
  ·rw [e, if_pos rfl] at hN
   try (simp)
   repeat (refine sR ?_; simp)
   refine sC ?_
   simp
   try (simp)
   repeat (refine sR ?_; simp)
   refine Stop.of_d (yes_c _ _) ?_
   simp
   refine sT ?_
   try simp only [AU]
   refine ⟨by simp, sF hbox htok (fun _ h => h) (Nat.le_refl _) ?_⟩
   simp [packA, ← hN]
 ·rw [if_neg k2] at hN
  have b2 : (c.kind == 2) = false := by simp [k2]
  by_cases k3 : c.kind = 3
  ·rw [if_pos k3] at hN
   rw [hN] at l3
   refine sB Tryz.func133 Tryz.ntmps133 ?_
   intro hbox htok
   simp only at hbox htok
   apply AL.start
   try (simp [b2, k3])
   repeat (refine sR ?_; simp [b2, k3])
   refine sC ?_
   simp [b2]
   try (simp [k3])
   repeat (refine sR ?_; simp [k3])
   refine sC ?_
   simp [k3]
   try (simp)
   repeat (refine sR ?_; simp)
   refine Stop.of_d (yes_c _ _) ?_
   simp
   refine Stop.of_d (no_c _ _) ?_
   simp
   refine Stop.of_d (l3 _ _) ?_
   simp
   refine sT ?_
   try simp only [AU]
   refine ⟨by simp, sF hbox htok (fun _ h => h) (Nat.le_refl _) ?_⟩
   simp [packA]
  ·rw [if_neg k3] at hN
   have b3 : (c.kind == 3) = false := by simp [k3]
   by_cases k4 : c.kind = 4
   ·rw [if_pos k4] at hN
    rw [hN] at l4
    refine sB Tryz.func133 Tryz.ntmps133 ?_
    intro hbox htok
    simp only at hbox htok
    apply AL.start
    try (simp [b2, k4])
    repeat (refine sR ?_; simp [b2, k4])
    refine sC ?_
    simp [b2]
    try (simp [b3, k4])
    repeat (refine sR ?_; simp [b3, k4])
    refine sC ?_
    simp [b3]
    try (simp [k4])
    repeat (refine sR ?_; simp [k4])
    refine sC ?_
    simp [k4]
    try (simp)
    repeat (refine sR ?_; simp)
    refine Stop.of_d (no_c _ _) ?_
    simp
    refine Stop.of_d (yes_c _ _) ?_
    simp
    refine Stop.of_d (l4 _ _) ?_
    simp
    refine sT ?_
    try simp only [AU]
    refine ⟨by simp, sF hbox htok (fun _ h => h) (Nat.le_refl _) ?_⟩
    simp [packA]
   ·rw [if_neg k4] at hN
    have b4 : (c.kind == 4) = false := by simp [k4]
    by_cases k5 : c.kind = 5
    ·have hl := h1 (.inr k5)
     have q := hno c.kids[0] (List.getElem_mem hl)
     rw [if_pos k5, show c.kids.getD 0 (cdOf 0 []) = c.kids[0] by simp [hl]] at hN
     refine sB Tryz.func133 Tryz.ntmps133 ?_
     intro hbox htok
     simp only at hbox htok
     apply AL.start
     try (simp [b2, k5])
     repeat (refine sR ?_; simp [b2, k5])
     refine sC ?_
     simp [b2]
     try (simp [b3, k5])
     repeat (refine sR ?_; simp [b3, k5])
     refine sC ?_
     simp [b3]
     try (simp [b4, k5])
     repeat (refine sR ?_; simp [b4, k5])
     refine sC ?_
     simp [b4]
     try (simp [k5])
     repeat (refine sR ?_; simp [k5])
     refine sC ?_
     simp [k5]
     try (simp [hl, Cd.cells_eq])
     repeat (refine sR ?_; simp [hl, Cd.cells_eq])
     refine Stop.of_d (q _ _) ?_
     simp
     cases e : isNoB c.kids[0]
     ·rw [e, if_neg (by simp)] at hN
      try (simp)
      repeat (refine sR ?_; simp)
      refine sC ?_
      simp
      try (simp)
      repeat (refine sR ?_; simp)
      refine sT ?_
      try simp only [AU]
      refine ⟨by simp, sF hbox htok (fun _ h => h) (Nat.le_refl _) ?_⟩
      simp [packA, ← hN]
     ·rw [e, if_pos rfl] at hN
      try (simp)
      repeat (refine sR ?_; simp)
      refine sC ?_
      simp
      try (simp)
      repeat (refine sR ?_; simp)
      refine Stop.of_d (no_c _ _) ?_
      simp
      refine sT ?_
      try simp only [AU]
      refine ⟨by simp, sF hbox htok (fun _ h => h) (Nat.le_refl _) ?_⟩
      simp [packA, ← hN]
    ·rw [if_neg k5] at hN
     have b5 : (c.kind == 5) = false := by simp [k5]
     refine sB Tryz.func133 Tryz.ntmps133 ?_
     intro hbox htok
     simp only at hbox htok
     apply AL.start
     try (simp [b2])
     repeat (refine sR ?_; simp [b2])
     refine sC ?_
     simp [b2]
     try (simp [b3])
     repeat (refine sR ?_; simp [b3])
     refine sC ?_
     simp [b3]
     try (simp [b4])
     repeat (refine sR ?_; simp [b4])
     refine sC ?_
     simp [b4]
     try (simp [b5])
     repeat (refine sR ?_; simp [b5])
     refine sC ?_
     simp [b5]
     try (simp)
     repeat (refine sR ?_; simp)
     refine sT ?_
     try simp only [AU]
     refine ⟨by simp, sF hbox htok (fun _ h => h) (Nat.le_refl _) ?_⟩
     simp [packA, ← hN]
end Go.AM
namespace Go.AM
open Go Go.Proofs
def withK (c : Cd) (l : List Cd) : Cd := .mk c.kind l c.m c.g c.sl c.vars c.te
def Cd.gg (c : Cd) (gone : List Int) : List Int := if c.kind = 5 then byK gone c.m.nodes gone.length else gone
def Cd.ge (c : Cd) (es : List Int) : List Int := if c.kind = 5 then byK es c.m.edges es.length else es
def Cd.prn (c : Cd) (gone es : List Int) : Cd :=
 if c.kind = 5 ∧ dngB c.g (c.ge es) (c.gg gone) = true then noC else redS (withK c (c.kids.attach.map fun ⟨x, hx⟩ => Cd.prn x (c.gg gone) (c.ge es)))
termination_by SizeOf.sizeOf c
decreasing_by exact Cd.kid_lt hx
theorem Cd.prn_eq (c : Cd) (gone es : List Int) : c.prn gone es = if c.kind = 5 ∧ dngB c.g (c.ge es) (c.gg gone) = true then noC else redS (withK c (c.kids.map fun x => x.prn (c.gg gone) (c.ge es))) := by
 rw [Cd.prn]
 congr 2
 simp
def Cd.ctr (c : Cd) (gone es : List Int) : Cd :=
 if c.kind = 5 ∧ dngB c.g (c.ge es) (c.gg gone) = true then noC else withK c (c.kids.attach.map fun ⟨x, hx⟩ => Cd.ctr x (c.gg gone) (c.ge es))
termination_by SizeOf.sizeOf c
decreasing_by exact Cd.kid_lt hx
theorem Cd.ctr_eq (c : Cd) (gone es : List Int) : c.ctr gone es = if c.kind = 5 ∧ dngB c.g (c.ge es) (c.gg gone) = true then noC else withK c (c.kids.map fun x => x.ctr (c.gg gone) (c.ge es)) := by
 rw [Cd.ctr]
 congr 2
 simp
def Cd.wod (c : Cd) : Cd := redS (withK c (c.kids.attach.map fun ⟨x, hx⟩ => Cd.wod x))
termination_by SizeOf.sizeOf c
decreasing_by exact Cd.kid_lt hx
theorem Cd.wod_eq (c : Cd) : c.wod = redS (withK c (c.kids.map Cd.wod)) := by
 rw [Cd.wod]
 congr 2
 simp
theorem wod_yes : yesC.wod = yesC := by
 rw [Cd.wod_eq]
 rfl
theorem wod_no : noC.wod = noC := by
 rw [Cd.wod_eq]
 show redS (withK noC [yesC.wod]) = noC
 rw [wod_yes]
 rfl
theorem ctr_wod : ∀ (n : Nat) (c : Cd), SizeOf.sizeOf c < n → ∀ gone es, (c.ctr gone es).wod = c.prn gone es
 | 0, c, hn, _, _ => absurd hn (Nat.not_lt_zero _)
 | n + 1, c, hn, gone, es => by
  have ih := fun x (hx : x ∈ c.kids) => ctr_wod n x (by have := Cd.kid_lt hx; omega)
  rw [c.ctr_eq, c.prn_eq]
  split
  ·exact wod_no
  ·rw [Cd.wod_eq]
   show redS (withK c ((c.kids.map fun x => x.ctr (c.gg gone) (c.ge es)).map Cd.wod)) = _
   rw [List.map_map]
   congr 2
   exact List.map_congr_left fun x hx => ih x hx _ _
theorem shape_withK {c : Cd} {l : List Cd} (h : shapeC c = 0) (hl : l.length = c.kids.length) : shapeC (withK c l) = 0 := by
 have e : shapeC (withK c l) = shapeC c := by
  unfold shapeC okC
  rw [show (withK c l).kids = l from rfl, hl]
  rfl
 rw [e]; exact h
theorem withK_ok {a : Gr} {c : Cd} {l : List Cd} (h : LftOk a c) (hl : l.length = c.kids.length) (hk : ∀ x ∈ l, LftOk (c.inn a) x) : LftOk a (withK c l) := by
 obtain ⟨h0, h1, h2⟩ := Cd.ovr_zero h.ovr
 have hf := h.fit
 have hb := h.bare
 refine ⟨Cd.ovr_of (shape_withK h0 hl) h1 fun x hx => (hk x hx).ovr, ?_, .mk hb.sl hb.te fun x hx => (hk x hx).bare⟩
 cases hf with
 | mk k1 k2 k3 k4 k5 k6 => exact .mk (by rw [show (withK c l).kids = l from rfl, hl]; exact k1) k2 k3 k4 k5 fun x hx => (hk x hx).fit
theorem LftOk.kid {a : Gr} {c : Cd} (h : LftOk a c) : ∀ x ∈ c.kids, LftOk (c.inn a) x := fun x hx => by
 obtain ⟨_, _, h2⟩ := Cd.ovr_zero h.ovr
 have hb := h.bare
 refine ⟨h2 x hx, h.fit.kid x hx, ?_⟩
 cases hb with
 | mk _ _ h3 => exact h3 x hx
theorem yesC_ok (a : Gr) : LftOk a yesC := ⟨Cd.ovr_of rfl rfl (by simp [cdOf, Cd.kids]), (nil_fb 1).1, (nil_fb 1).2⟩
theorem lstR_ok {a : Gr} {k : Int} {e : Cd} {K : List Cd} (hk : k = 3 ∨ k = 4) (he : LftOk a e) (hK : ∀ x ∈ K, LftOk a x) (hl : K.length ≤ kidN) : LftOk a (lstR k e K) := by
 unfold lstR
 split
 ·exact he
 ·rename_i h0
  split
  ·rename_i h1
   have h2 : 0 < K.length := by omega
   rw [show K.getD 0 e = K[0] by simp [h2]]
   exact hK _ (List.getElem_mem h2)
  ·have hsh : shapeC (cdOf k K) = 0 := by
    have h1 : 0 < (cdOf k K).kids.length := by show 0 < K.length; omega
    have h5 : okC (cdOf k K) = true := by
     unfold okC
     rw [show (cdOf k K).kind = k from rfl, unused_cdOf]
     rcases hk with rfl | rfl <;> simp [h1]
    rw [shapeC, if_pos h5, if_pos (plain_cdOf _ _)]
   refine ⟨Cd.ovr_of hsh (by rcases hk with rfl | rfl <;> rfl) fun x hx => ?_, cdOf_fit hl fun x hx => (hK x hx).fit, bare_cdOf fun x hx => (hK x hx).bare⟩
   have : (cdOf k K).inn a = a := by
    rw [Cd.inn, if_neg]
    show k ≠ 5
    rcases hk with rfl | rfl <;> decide
   rw [this]
   exact (hK x hx).ovr
theorem redS_ok {a : Gr} {c : Cd} (h : LftOk a c) : LftOk a (redS c) := by
 have hk := h.kid
 have hkl := h.fit.kids
 have hls : ∀ (e w : Cd) (neu abs : Cd → Bool), LftOk a e → LftOk a w → (c.kind = 3 ∨ c.kind = 4) → LftOk a (listS c e w neu abs) := fun e w neu abs he hw hkd => by
  unfold listS
  split
  ·exact hw
  ·refine lstR_ok hkd he (fun x hx => ?_) (Nat.le_trans (List.length_filter_le _ _) hkl)
   have := hk x (List.mem_filter.1 hx).1
   rw [Cd.inn, if_neg (by rcases hkd with e | e <;> rw [e] <;> decide)] at this
   exact this
 unfold redS
 split
 ·split
  ·exact yesC_ok a
  ·exact h
 ·split
  ·rename_i k3; exact hls _ _ _ _ (yesC_ok a) (noC_ok a) (.inl k3)
  ·split
   ·rename_i k4; exact hls _ _ _ _ (noC_ok a) (yesC_ok a) (.inr k4)
   ·split
    ·split
     ·exact noC_ok a
     ·exact h
    ·exact h
theorem prn_ok : ∀ (n : Nat) (c : Cd), SizeOf.sizeOf c < n → ∀ a, LftOk a c → ∀ gone es, LftOk a (c.prn gone es)
 | 0, c, hn, _, _, _, _ => absurd hn (Nat.not_lt_zero _)
 | n + 1, c, hn, a, h, gone, es => by
  have ih := fun x (hx : x ∈ c.kids) => prn_ok n x (by have := Cd.kid_lt hx; omega)
  rw [c.prn_eq]
  split
  ·exact noC_ok a
  ·refine redS_ok (withK_ok h (by simp) fun y hy => ?_)
   obtain ⟨x, hx, rfl⟩ := List.mem_map.1 hy
   exact ih x hx _ (h.kid x hx) _ _
theorem ctr_ok : ∀ (n : Nat) (c : Cd), SizeOf.sizeOf c < n → ∀ a, LftOk a c → ∀ gone es, LftOk a (c.ctr gone es)
 | 0, c, hn, _, _, _, _ => absurd hn (Nat.not_lt_zero _)
 | n + 1, c, hn, a, h, gone, es => by
  have ih := fun x (hx : x ∈ c.kids) => ctr_ok n x (by have := Cd.kid_lt hx; omega)
  rw [c.ctr_eq]
  split
  ·exact noC_ok a
  ·refine withK_ok h (by simp) fun y hy => ?_
   obtain ⟨x, hx, rfl⟩ := List.mem_map.1 hy
   exact ih x hx _ (h.kid x hx) _ _
theorem wod_ok : ∀ (n : Nat) (c : Cd), SizeOf.sizeOf c < n → ∀ a, LftOk a c → LftOk a c.wod
 | 0, c, hn, _, _ => absurd hn (Nat.not_lt_zero _)
 | n + 1, c, hn, a, h => by
  have ih := fun x (hx : x ∈ c.kids) => wod_ok n x (by have := Cd.kid_lt hx; omega)
  rw [c.wod_eq]
  refine redS_ok (withK_ok h (by simp) fun y hy => ?_)
  obtain ⟨x, hx, rfl⟩ := List.mem_map.1 hy
  exact ih x hx _ (h.kid x hx)
end Go.AM
namespace Go.AM
open Go Go.Proofs
theorem shape_two {c : Cd} (h : shapeC c = 0) (h2 : c.kind = 2) : c.kids.length = 1 := by
 unfold shapeC at h
 split at h
 ·rename_i hk
  simp [okC, h2] at hk
  omega
 ·omega
abbrev cutRow (c : Cd) (K : List Cd) (own : Own) : List AV := [I c.kind, .osl 9 (K.map Cd.cells) own, .d (ints c.m.nodes), .d (ints c.m.edges), .d (ints c.g.nodes), .d (AM.edges c.g.edges), .d (slots c.sl), I c.vars, .d (tests c.te)]
def stCu (c : Cd) (G H : List Int) (nb : Nat) (box : Nat → Option (List (List AV))) (i : Nat) (K : List Cd) (x : Acc) : AState :=
 ⟨tl [(35, I i), (34, I c.kids.length), (33, .d (conds c.kids)), (7, .ptr (nb + 7) 0 0), (6, .ptr (nb + 6) 0 0), (1, .d (ints G)), (2, .d (ints H))], lb nb box [(7, [cutRow c K x.own]), (6, [zRow])], x.tok, x.nt⟩
set_option maxRecDepth 100000 in
theorem cut_c : ∀ (n : Nat) (c : Cd), SizeOf.sizeOf c < n → ∀ a, LftOk a c → ∀ (gone es : List Int), gone.length ≤ 1000000 → es.length ≤ 1000000 → (∀ x ∈ gone, 0 ≤ x ∧ x < a.nodes.length) → (∀ x ∈ es, 0 ≤ x ∧ x < a.edges.length) → ∀ (tok : Nat → Bool) (nt : Nat), DCall Tryz.prog 71 [c.av, .d (ints gone), .d (ints es)] tok nt (c.prn gone es).av tok nt
 | 0, c, hn, _, _, _, _, _, _, _, _, _, _ => absurd hn (Nat.not_lt_zero _)
 | n + 1, c, hn, a, h, gone, es, hg1, he1, hg, he, tok, nt => by
  have ih := fun x (hx : x ∈ c.kids) => cut_c n x (by have := Cd.kid_lt hx; omega)
  intro box nb
  have hP := c.prn_eq gone es
  obtain ⟨N, hN⟩ : ∃ N, c.prn gone es = N := ⟨_, rfl⟩
  rw [hN] at hP ⊢
  have hkl := h.fit.kids
  rw [kidN_eq] at hkl
  have hgl : (c.gg gone).length ≤ 1000000 := by unfold Cd.gg; split <;> simp [hg1]
  have hel : (c.ge es).length ≤ 1000000 := by unfold Cd.ge; split <;> simp [he1]
  have hgb : ∀ x ∈ c.gg gone, 0 ≤ x ∧ x < (c.inn a).nodes.length := by
   unfold Cd.gg Cd.inn
   split
   ·rename_i k5
    obtain ⟨hm, _⟩ := ovr_ex h.ovr k5
    intro x hx
    simp only [byK, List.take_length, List.mem_map] at hx
    obtain ⟨y, hy, rfl⟩ := hx
    have := hg y hy
    exact hm.vm.n _ (getD_mem (by rw [hm.vm.ln]; omega))
   ·exact hg
  have heb : ∀ x ∈ c.ge es, 0 ≤ x ∧ x < (c.inn a).edges.length := by
   unfold Cd.ge Cd.inn
   split
   ·rename_i k5
    obtain ⟨hm, _⟩ := ovr_ex h.ovr k5
    intro x hx
    simp only [byK, List.take_length, List.mem_map] at hx
    obtain ⟨y, hy, rfl⟩ := hx
    have := he y hy
    exact hm.vm.e _ (getD_mem (by rw [hm.vm.le]; omega))
   ·exact he
  have ihk := fun x (hx : x ∈ c.kids) => ih x hx _ (h.kid x hx) _ _ hgl hel hgb heb
  refine sB Tryz.func71 Tryz.ntmps71 ?_
  intro hbox htok
  simp only at hbox htok
  apply AL.start
  try (simp)
  repeat (refine sR ?_; simp)
  refine AL.midP ⟨tl [(6, .ptr (nb + 6) 0 0), (3, .ptr (nb + 3) 0 0), (1, .d (ints (c.gg gone))), (2, .d (ints (c.ge es)))], lb nb box [(3, [c.row]), (6, [zRow])], tok, nt⟩ (N = redS (withK c (c.kids.map fun x => x.prn (c.gg gone) (c.ge es)))) ?_ ?_
  ·by_cases k5 : c.kind = 5
   ·obtain ⟨hm, x, hkx⟩ := ovr_ex h.ovr k5
    have hV := hm.vm
    have q1 := throughP_c gone c.m.nodes hg1 (fun x hx => by rw [hV.ln]; exact hg x hx)
    have q2 := throughP_c es c.m.edges he1 (fun x hx => by rw [hV.le]; exact he x hx)
    have eg : c.gg gone = byK gone c.m.nodes gone.length := if_pos k5
    have ee : c.ge es = byK es c.m.edges es.length := if_pos k5
    rw [← eg] at q1
    rw [← ee] at q2
    have q3 := dangles_c c.g h.fit.g (c.ge es) (c.gg gone) hel hgl
    generalize c.gg gone = G at *
    generalize c.ge es = H at *
    refine sC ?_
    simp [k5]
    try (simp)
    repeat (refine sR ?_; simp)
    refine Stop.of_d (q1 _ _) ?_
    simp
    refine Stop.of_d (q2 _ _) ?_
    simp
    try (simp)
    repeat (refine sR ?_; simp)
    refine Stop.of_d (q3 _ _) ?_
    simp
    cases e5 : dngB c.g H G
    ·rw [if_neg (by rw [e5]; simp)] at hP
     refine sC ?_
     simp
     refine sE ?_
     exact ⟨hP, Weaks.mk (Nat.le_refl _) rfl (by simp [ToL, lk, lb_at]) (by simp [BoxL, lk])⟩
    ·rw [if_pos ⟨k5, e5⟩] at hP
     refine sC ?_
     simp
     try (simp)
     repeat (refine sR ?_; simp)
     refine Stop.of_d (no_c _ _) ?_
     simp
     refine sT ?_
     try simp only [AU]
     refine ⟨by simp, sF hbox htok (fun _ h => h) (Nat.le_refl _) ?_⟩
     simp [packA, hP]
   ·have b5 : (c.kind == 5) = false := by simp [k5]
    rw [if_neg (by simp [k5])] at hP
    refine sC ?_
    simp [b5]
    refine sE ?_
    exact ⟨hP, Weaks.mk (Nat.le_refl _) rfl (by simp [ToL, lk, lb_at, Cd.gg, Cd.ge, k5]) (by simp [BoxL, lk])⟩
  ·intro hP
   generalize c.gg gone = G at *
   generalize c.ge es = H at *
   try (simp)
   repeat (refine sR ?_; simp)
   refine sN ?_
   refine AL.loopT (fun x => stCu c G H nb box x.i ((c.kids.take x.i).map fun y => y.prn G H) x) (fun x => x.i ≤ c.kids.length ∧ TK tok nt x.tok x.nt [x.own]) (fun x => c.kids.length - x.i) ⟨0, .full, tok, nt⟩ ⟨Nat.zero_le _, (TK.start htok).full⟩ (Weaks.mk (Nat.le_refl _) rfl (by simp [ToL, lk, lb_at]) (by simp [BoxL, lk])) ?_
   rintro ⟨i, own, tok', nt'⟩ S ⟨hi, htk⟩ hS
   simp only [stCu] at hS hi htk
   subst hS
   have hw := sW (i := i) (by omega)
   have hKl : ((c.kids.take i).map fun y => y.prn G H).length = i := by simp; omega
   obtain ⟨K, hK⟩ : ∃ K, ((c.kids.take i).map fun y => y.prn G H) = K := ⟨_, rfl⟩
   rw [hK] at hKl ⊢
   try (simp)
   repeat (refine sR ?_; simp)
   refine sC ?_
   simp
   refine ⟨fun hlt => ?_, fun hge => ?_⟩
   ·have ihx := ihk _ (List.getElem_mem hlt)
    have hst : ((c.kids.take (i + 1)).map fun y => y.prn G H) = K ++ [c.kids[i].prn G H] := by rw [List.take_succ_eq_append_getElem hlt, List.map_append, hK]; rfl
    have hst2 : (c.kids.map fun y => y.prn G H).take (i + 1) = K ++ [c.kids[i].prn G H] := by rw [← List.map_take]; exact hst
    generalize c.kids[i].prn G H = R at *
    try (simp [hlt, Cd.cells_eq])
    repeat (refine sR ?_; simp [hlt, Cd.cells_eq])
    refine Stop.of_d (ihx _ _) ?_
    simp
    refine ⟨⟨by omega, htk.live⟩, ?_⟩
    try (simp [hw])
    repeat (refine sR ?_; simp [hw])
    refine sE ?_
    refine ⟨⟨i + 1, _, _, _⟩, ⟨hlt, htk.app⟩, by simp only; omega, ?_⟩
    show Weaks _ _ _ (stCu c G H nb box (i + 1) ((c.kids.map fun y => y.prn G H).take (i + 1)) _)
    rw [hst2]
    exact Weaks.mk htk.app.le rfl (by simp [ToL, lk, lb_at]) (by simp [BoxL, lk, Cd.cells_eq])
   ·refine sX ?_
    simp only [AU, ↓reduceIte]
    have hil : i = c.kids.length := by omega
    have hKa : c.kids.map (fun x => x.prn G H) = K := by rw [← hK, List.take_of_length_le hge]
    rw [hKa] at hP
    have hwk : LftOk a (withK c K) := withK_ok h (by omega) fun y hy => by
     rw [← hKa] at hy
     obtain ⟨x, hx, rfl⟩ := List.mem_map.1 hy
     exact prn_ok _ x (Nat.lt_succ_self _) _ (h.kid x hx) _ _
    have hsh := (Cd.ovr_zero hwk.ovr).1
    have hrd := reduced_c (withK c K) hwk.fit (fun hk => by
     rcases hk with hk | hk
     ·have := shape_two hsh hk; omega
     ·have := shape_kind hsh hk; omega) (fun x hx hk => by
      have := shape_two (Cd.ovr_zero (hwk.kid x hx).ovr).1 hk
      omega)
    try (simp)
    repeat (refine sR ?_; simp)
    refine Stop.data ?_
    refine Stop.of_d (hrd _ _) ?_
    try (simp)
    repeat (refine sR ?_; simp)
    refine sT ?_
    try simp only [AU]
    refine ⟨by simp, sF hbox htok htk.old htk.le ?_⟩
    simp [packA, hP]
theorem shape_vars {c : Cd} (h : shapeC c = 0) : c.vars = 0 := by
 unfold shapeC at h
 split at h
 ·split at h
  ·rename_i hp
   simp only [plainC, Bool.and_eq_true] at hp
   exact (z0_iff _).1 hp.2.1
  ·cases h
 ·cases h
abbrev cpyRow (c : Cd) (K : List Cd) (own : Own) : List AV := [I c.kind, .osl 9 (K.map Cd.cells) own, .d (ints c.m.nodes), .d (ints c.m.edges), .d (ints c.g.nodes), .d (AM.edges c.g.edges), nilS, z0i, nilS]
def stCy (c : Cd) (nb : Nat) (box : Nat → Option (List (List AV))) (x : Acc) : AState :=
 ⟨tl [(34, I x.i), (33, I c.kids.length), (32, .d (conds c.kids)), (3, .ptr (nb + 3) 0 0), (2, .ptr (nb + 2) 0 0), (1, .ptr (nb + 1) 0 0)], lb nb box [(3, [cpyRow c (c.kids.take x.i) x.own]), (1, [c.row]), (2, [zRow])], x.tok, x.nt⟩
theorem copied34_c : ∀ (n : Nat) (c : Cd), SizeOf.sizeOf c < n → ∀ a, LftOk a c → ∀ (tok : Nat → Bool) (nt : Nat), DCall Tryz.prog 72 [c.av] tok nt c.av tok nt
 | 0, c, hn, _, _, _, _ => absurd hn (Nat.not_lt_zero _)
 | n + 1, c, hn, a, h, tok, nt => by
  have ih := fun x (hx : x ∈ c.kids) => copied34_c n x (by have := Cd.kid_lt hx; omega) _ (h.kid x hx)
  have hv := shape_vars (Cd.ovr_zero h.ovr).1
  have hsl := h.bare.sl
  have hte := h.bare.te
  have hf := h.fit
  have hkl := hf.kids
  rw [kidN_eq] at hkl
  intro box nb
  refine sB Tryz.func72 Tryz.ntmps72 ?_
  intro hbox htok
  simp only at hbox htok
  apply AL.start
  try (simp)
  repeat (refine sR ?_; simp)
  refine Stop.of_d (clone_c c.m.nodes hf.m.n _ _) ?_
  simp
  refine Stop.of_d (clone_c c.m.edges hf.m.e _ _) ?_
  simp
  try (simp)
  repeat (refine sR ?_; simp)
  refine Stop.of_d (clone_c c.g.nodes hf.g.n _ _) ?_
  simp
  refine Stop.of_d (cloneE_c c.g.edges hf.g.e _ _) ?_
  simp
  try (simp)
  repeat (refine sR ?_; simp)
  have htk0 := ((TK.start htok).full.app.full.app.full.app.full.app).tail.tail.tail.tail.full
  refine sN ?_
  refine AL.loopT (fun x => stCy c nb box x) (fun x => x.i ≤ c.kids.length ∧ TK tok nt x.tok x.nt [x.own]) (fun x => c.kids.length - x.i) ⟨0, .full, _, _⟩ ⟨Nat.zero_le _, htk0⟩ (Weaks.mk htk0.le rfl (by simp [ToL, lk, lb_at]) (by simp [BoxL, lk, To.data])) ?_
  rintro ⟨i, own, tok', nt'⟩ S ⟨hi, htk⟩ hS
  simp only [stCy] at hS hi htk
  subst hS
  have hw := sW (i := i) (by omega)
  have hKl : (c.kids.take i).length = i := by rw [List.length_take]; omega
  obtain ⟨K, hK⟩ : ∃ K, c.kids.take i = K := ⟨_, rfl⟩
  rw [hK] at hKl ⊢
  try (simp)
  repeat (refine sR ?_; simp)
  refine sC ?_
  simp
  refine ⟨fun hlt => ?_, fun hge => ?_⟩
  ·have ihx := ih _ (List.getElem_mem hlt)
   have hst : c.kids.take (i + 1) = K ++ [c.kids[i]] := by rw [List.take_succ_eq_append_getElem hlt, hK]
   try (simp [hlt, Cd.cells_eq])
   repeat (refine sR ?_; simp [hlt, Cd.cells_eq])
   refine Stop.of_d (ihx _ _) ?_
   simp
   refine ⟨⟨by omega, htk.live⟩, ?_⟩
   try (simp [hw])
   repeat (refine sR ?_; simp [hw])
   refine sE ?_
   refine ⟨⟨i + 1, _, _, _⟩, ⟨hlt, htk.app⟩, by simp only; omega, ?_⟩
   simp only [stCy, hst]
   exact Weaks.mk htk.app.le rfl (by simp [ToL, lk, lb_at]) (by simp [BoxL, lk, Cd.cells_eq])
  ·refine sX ?_
   simp only [AU, ↓reduceIte]
   rw [List.take_of_length_le hge] at hK
   subst hK
   try (simp)
   repeat (refine sR ?_; simp)
   refine sT ?_
   try simp only [AU]
   refine ⟨by simp, sF hbox htok htk.old htk.le ?_⟩
   simp [packA, hv, hsl, hte, slots, tests]
end Go.AM
namespace Go.AM
open Go Go.Proofs
theorem ovr_bare2 : ∀ (n : Nat) (c : Cd), SizeOf.sizeOf c < n → ∀ a, c.ovr a = 0 → c.Bare
 | 0, c, hn, _, _ => absurd hn (Nat.not_lt_zero _)
 | n + 1, c, hn, a, h => by
  obtain ⟨h0, _, h2⟩ := Cd.ovr_zero h
  unfold shapeC at h0
  split at h0
  ·split at h0
   ·rename_i hp
    simp only [plainC, Bool.and_eq_true] at hp
    have e1 := (z0_iff _).1 hp.1
    have e2 := (z0_iff _).1 hp.2.2
    exact .mk (List.length_eq_zero_iff.1 (by omega)) (List.length_eq_zero_iff.1 (by omega)) fun x hx => ovr_bare2 n x (by have := Cd.kid_lt hx; omega) _ (h2 x hx)
   ·cases h0
  ·cases h0
def pruR (t : Ty) (r : Ru) (c : Cd) : Cd × Int :=
 if tyE t ≠ 0 then (cdOf 0 [], tyE t) else if strR r ≠ 0 then (cdOf 0 [], strR r) else if validC r.lg c ≠ 0 then (cdOf 0 [], validC r.lg c)
 else (c.prn (delL r.k.nodes r.lg.nodes.length) (iota r.lg.edges.length), 0)
def stP1 (r : Ru) (c : Cd) (nb : Nat) (box : Nat → Option (List (List AV))) (x : Acc) : AState :=
 ⟨tl [(45, I x.i), (44, I r.lg.nodes.length), (14, nilS), (13, .osl 1 (rI (delL r.k.nodes x.i)) x.own), (11, .ptr (nb + 11) 0 0), (6, .ptr (nb + 6) 0 0), (5, .ptr (nb + 5) 0 0), (4, .ptr (nb + 4) 0 0)], lb nb box [(11, [[.d (ints r.lg.nodes), .d (AM.edges r.lg.edges)]]), (5, [c.row]), (4, [r.row]), (6, [zRow])], x.tok, x.nt⟩
def stP2 (c : Cd) (D : List Int) (m : Nat) (nb : Nat) (box : Nat → Option (List (List AV))) (x : Acc) : AState :=
 ⟨tl [(62, I x.i), (61, I m), (14, .osl 1 (rI (iota x.i)) x.own), (13, .d (ints D)), (6, .ptr (nb + 6) 0 0), (5, .ptr (nb + 5) 0 0)], lb nb box [(5, [c.row]), (6, [zRow])], x.tok, x.nt⟩
theorem iota_more (i : Nat) : iota (i + 1) = iota i ++ [(i : Int)] := by simp [iota, List.range_succ]
set_option maxRecDepth 100000 in
theorem pruneP_c (t : Ty) (ht : t.Fit) (r : Ru) (hr : r.Fit) (c : Cd) (hc : c.Fit) (tok : Nat → Bool) (nt : Nat) : DCall Tryz.prog 23 [t.av, r.av, c.av] tok nt (.tup [(pruR t r c).1.av, I (pruR t r c).2]) tok nt := by
 intro box nb
 have h1 := valid_c4 t ht ht.hM
 have h2 := structural_c r hr
 have h3 := validC_c r.lg c hr.lg hc
 have hv := @strR_valid r
 have hvc := @validC_zero r.lg c
 obtain ⟨N, hN⟩ : ∃ N, pruR t r c = N := ⟨_, rfl⟩
 rw [hN]
 unfold pruR at hN
 generalize tyE t = E at *
 generalize tyN t = Z at *
 generalize strR r = S at *
 generalize validC r.lg c = V at *
 refine sB Tryz.func23 Tryz.ntmps23 ?_
 intro hbox htok
 simp only at hbox htok
 apply AL.start
 try (simp)
 repeat (refine sR ?_; simp)
 refine Stop.of_d (h1 _ _) ?_
 simp
 try (simp)
 repeat (refine sR ?_; simp)
 by_cases e1 : E = 0
 ·rw [if_neg (by simp [e1])] at hN
  refine sC ?_
  simp [e1]
  try (simp)
  repeat (refine sR ?_; simp)
  refine Stop.of_d (h2 _ _) ?_
  simp
  try (simp)
  repeat (refine sR ?_; simp)
  by_cases e2 : S = 0
  ·rw [if_neg (by simp [e2])] at hN
   obtain ⟨v1, _⟩ := hv e2
   have hnn := (validG_types v1).1
   refine sC ?_
   simp [e2]
   try (simp)
   repeat (refine sR ?_; simp)
   refine Stop.of_d (h3 _ _) ?_
   simp
   try (simp)
   repeat (refine sR ?_; simp)
   by_cases e3 : V = 0
   ·rw [if_neg (by simp [e3])] at hN
    have hov := (hvc e3).2
    have hok : LftOk r.lg c := ⟨hov, hc, ovr_bare2 _ c (Nat.lt_succ_self _) _ hov⟩
    have hcp := copied34_c _ c (Nat.lt_succ_self _) _ hok
    have hct := cut_c _ c (Nat.lt_succ_self _) _ hok (delL r.k.nodes r.lg.nodes.length) (iota r.lg.edges.length) (by have := flatN_len (delF_len r.k.nodes) r.lg.nodes.length; rw [delL]; omega) (by simp; omega) (fun x hx => mem_delL hx) (fun x hx => by simp [iota] at hx; omega)
    refine sC ?_
    simp [e3]
    try (simp)
    repeat (refine sR ?_; simp)
    refine sN ?_
    refine AL.loopT (fun x => stP1 r c nb box x) (fun x => x.i ≤ r.lg.nodes.length ∧ TK tok nt x.tok x.nt [x.own]) (fun x => r.lg.nodes.length - x.i) ⟨0, .full, tok, nt⟩ ⟨Nat.zero_le _, (TK.start htok).full⟩ (Weaks.mk (Nat.le_refl _) rfl (by simp [ToL, lk, lb_at, delL, flatN]) (by simp [BoxL, lk])) ?_
    rintro ⟨i, own, tok', nt'⟩ S' ⟨hi, htk⟩ hS
    simp only [stP1] at hS hi htk
    subst hS
    have hw := sW (i := i) (by omega)
    have hlen := flatN_len (delF_len r.k.nodes) i
    have hst : delL r.k.nodes (i + 1) = delL r.k.nodes i ++ delF r.k.nodes i := rfl
    have hcn := contains_c r.k.nodes i hr.k.n
    try (simp)
    repeat (refine sR ?_; simp)
    refine sC ?_
    simp
    refine ⟨fun hlt => ?_, fun hge => ?_⟩
    ·try (simp [hlt])
     repeat (refine sR ?_; simp [hlt])
     refine Stop.of_d (hcn _ _) ?_
     simp
     by_cases hm : (i : Int) ∈ r.k.nodes
     ·rw [show delF r.k.nodes i = [] from if_pos hm, List.append_nil] at hst
      try (simp [hm])
      repeat (refine sR ?_; simp [hm])
      refine sC ?_
      simp [hm]
      try (simp [hw])
      repeat (refine sR ?_; simp [hw])
      refine sE ?_
      refine ⟨⟨i + 1, own, tok', nt'⟩, ⟨hlt, htk⟩, by simp only; omega, ?_⟩
      simp only [stP1, hst]
      exact Weaks.mk htk.le rfl (by simp [ToL, lk, lb_at]) (by simp [BoxL, lk])
     ·rw [show delF r.k.nodes i = [(i : Int)] from if_neg hm] at hst
      try (simp [hm])
      repeat (refine sR ?_; simp [hm])
      refine sC ?_
      simp [hm]
      try (simp)
      repeat (refine sR ?_; simp)
      refine ⟨⟨by rw [delL]; omega, htk.live⟩, ?_⟩
      try (simp [hw])
      repeat (refine sR ?_; simp [hw])
      refine sE ?_
      refine ⟨⟨i + 1, _, _, _⟩, ⟨hlt, htk.app⟩, by simp only; omega, ?_⟩
      simp only [stP1, hst]
      exact Weaks.mk htk.app.le rfl (by simp [ToL, lk, lb_at, rI]) (by simp [BoxL, lk])
    ·refine sX ?_
     simp only [AU, ↓reduceIte]
     have hin : i = r.lg.nodes.length := by omega
     subst hin
     generalize delL r.k.nodes r.lg.nodes.length = D at *
     try (simp)
     repeat (refine sR ?_; simp)
     refine sN ?_
     have htk0 := htk.tail.full
     refine AL.loopT (fun x => stP2 c D r.lg.edges.length nb box x) (fun x => x.i ≤ r.lg.edges.length ∧ TK tok nt x.tok x.nt [x.own]) (fun x => r.lg.edges.length - x.i) ⟨0, .full, tok', nt'⟩ ⟨Nat.zero_le _, htk0⟩ (Weaks.mk htk0.le rfl (by simp [ToL, lk, lb_at, iota, To.data]) (by simp [BoxL, lk])) ?_
     clear htk htk0
     rintro ⟨i, own, tok', nt'⟩ S' ⟨hi, htk⟩ hS
     simp only [stP2] at hS hi htk
     subst hS
     have hw := sW (i := i) (by omega)
     have hsi := iota_more i
     have hil : (iota i).length = i := by simp
     try (simp)
     repeat (refine sR ?_; simp)
     refine sC ?_
     simp
     refine ⟨fun hlt => ?_, fun hge => ?_⟩
     ·try (simp)
      repeat (refine sR ?_; simp)
      refine ⟨⟨by omega, htk.live⟩, ?_⟩
      try (simp [hw])
      repeat (refine sR ?_; simp [hw])
      refine sE ?_
      refine ⟨⟨i + 1, _, _, _⟩, ⟨hlt, htk.app⟩, by simp only; omega, ?_⟩
      simp only [stP2, hsi]
      exact Weaks.mk htk.app.le rfl (by simp [ToL, lk, lb_at, rI]) (by simp [BoxL, lk])
     ·refine sX ?_
      simp only [AU, ↓reduceIte]
      have hin : i = r.lg.edges.length := by omega
      subst hin
      generalize iota r.lg.edges.length = W at *
      try (simp)
      repeat (refine sR ?_; simp)
      refine Stop.of_d (hcp _ _) ?_
      simp
      refine Stop.data ?_
      refine Stop.of_d (hct _ _) ?_
      try (simp)
      repeat (refine sR ?_; simp)
      refine sT ?_
      try simp only [AU]
      refine ⟨by simp, sF hbox htok htk.old htk.le ?_⟩
      simp [packA, ← hN]
   ·rw [if_pos e3] at hN
    have b3 : (V != 0) = true := by simp [e3]
    refine sC ?_
    simp [b3]
    try (simp)
    repeat (refine sR ?_; simp)
    refine sT ?_
    try simp only [AU]
    refine ⟨by simp, sF hbox htok (fun _ h => h) (Nat.le_refl _) ?_⟩
    simp [packA, ← hN, cdOf, Cd.kind, Cd.kids, Cd.m, Cd.g, Cd.sl, Cd.vars, Cd.te, conds, ints, AM.edges, slots, tests]
  ·rw [if_pos e2] at hN
   have b2 : (S != 0) = true := by simp [e2]
   refine sC ?_
   simp [b2]
   try (simp)
   repeat (refine sR ?_; simp)
   refine sT ?_
   try simp only [AU]
   refine ⟨by simp, sF hbox htok (fun _ h => h) (Nat.le_refl _) ?_⟩
   simp [packA, ← hN, cdOf, Cd.kind, Cd.kids, Cd.m, Cd.g, Cd.sl, Cd.vars, Cd.te, conds, ints, AM.edges, slots, tests]
 ·rw [if_pos e1] at hN
  have b1 : (E != 0) = true := by simp [e1]
  refine sC ?_
  simp [b1]
  try (simp)
  repeat (refine sR ?_; simp)
  refine sT ?_
  try simp only [AU]
  refine ⟨by simp, sF hbox htok (fun _ h => h) (Nat.le_refl _) ?_⟩
  simp [packA, ← hN, cdOf, Cd.kind, Cd.kids, Cd.m, Cd.g, Cd.sl, Cd.vars, Cd.te, conds, ints, AM.edges, slots, tests]
end Go.AM
