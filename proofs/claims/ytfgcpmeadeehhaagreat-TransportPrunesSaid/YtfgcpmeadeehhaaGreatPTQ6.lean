/-
 Parts of the proof, as merged from many texts: a machine over data, what the functions compute, plain laws.
-/
import Derived.Test.YtfgcpmeadeehhaaGreatPTQ5
set_option linter.unusedSimpArgs false
set_option linter.unusedVariables false
namespace Go.AM
open Go Go.Proofs
inductive Cd.Fit : Cd → Prop
 | mk {c : Cd} (hk : c.kids.length ≤ kidN) (hm : c.m.Fit) (hg : c.g.Fit) (hs : c.sl.length ≤ bigN) (ht : c.te.length ≤ bigN) (h : ∀ x ∈ c.kids, Cd.Fit x) : Cd.Fit c
theorem Cd.Fit.kids {c : Cd} (h : c.Fit) : c.kids.length ≤ kidN := by cases h; assumption
theorem Cd.Fit.kid {c : Cd} (h : c.Fit) : ∀ x ∈ c.kids, Cd.Fit x := by cases h; assumption
theorem Cd.Fit.m {c : Cd} (h : c.Fit) : c.m.Fit := by cases h; assumption
theorem Cd.Fit.g {c : Cd} (h : c.Fit) : c.g.Fit := by cases h; assumption
theorem Cd.Fit.big {c : Cd} (h : c.Fit) : c.Big := by
 induction h with
 | mk hk hm hg hs ht _ ih =>
  refine ⟨hk, ?_, ?_, ?_, ?_, hs, ht, ih⟩
  ·have := hm.n; rw [bigN_eq]; omega
  ·have := hm.e; rw [bigN_eq]; omega
  ·have := hg.n; rw [bigN_eq]; omega
  ·have := hg.e; rw [bigN_eq]; omega
def ovrStep (a : Gr) (k : Int) (m : Mo) (g : Gr) : Int := if k = 5 then (if validM a g m ≠ 0 then validM a g m else if injM a g m = true then 0 else 1) else 0
mutual
def Cd.ovr : Cd → Gr → Int
 | .mk k c m g s v t, a => if shapeC (.mk k c m g s v t) = 0 then if ovrStep a k m g = 0 then Cd.ovrL c (if k = 5 then g else a) else ovrStep a k m g else shapeC (.mk k c m g s v t)
def Cd.ovrL : List Cd → Gr → Int
 | [], _ => 0
 | x :: r, a => if Cd.ovr x a = 0 then Cd.ovrL r a else Cd.ovr x a
end
theorem Cd.ovrL_eq (a : Gr) : ∀ l : List Cd, Cd.ovrL l a = errL (fun x => Cd.ovr x a) l
 | [] => by simp [Cd.ovrL, errL]
 | x :: r => by simp [Cd.ovrL, errL, Cd.ovrL_eq a r]
abbrev Cd.inn (c : Cd) (a : Gr) : Gr := if c.kind = 5 then c.g else a
theorem Cd.ovr_eq (c : Cd) (a : Gr) : c.ovr a = if shapeC c = 0 then if ovrStep a c.kind c.m c.g = 0 then errL (fun x => Cd.ovr x (c.inn a)) c.kids else ovrStep a c.kind c.m c.g else shapeC c := by
 cases c
 rw [Cd.ovr, Cd.ovrL_eq]
 rfl
theorem AL.midP {cx : Cx} {nt0 : Nat} {K : Exit → AState → Prop} {r : List CI} {S : AState} {x y : Code} (T : AState) (p : Prop)
  (h1 : AL Tryz.prog cx nt0 (fun e S' => match e with
   | .normal => p ∧ Weaks cx nt0 S' T
   | e => AU Tryz.prog cx nt0 K (.c y :: r) e S') [.c x] S) (h2 : p → AL Tryz.prog cx nt0 K (.c y :: r) T) : AL Tryz.prog cx nt0 K (.c x :: .c y :: r) S := by
 have h3 := AL.start h1
 simp only [AL] at h2 ⊢
 refine h3.mono fun e S' h => ?_
 cases e with
 | normal => exact AT.weaks h.2 (h2 h.1)
 | _ => exact h
abbrev Gr.cells2 (g : Gr) : List AV := [.d (ints g.nodes), .d (AM.edges g.edges)]
def stOv (a : Gr) (c : Cd) (nb : Nat) (box : Bxs) (tok : Tks) (nt : Nat) (i : Nat) : AState :=
 ⟨tl [(38, .d (conds c.kids)), (39, I c.kids.length), (40, I i), (6, .ptr (nb + 6) 0 0)], lb nb box [(6, [a.cells2])], tok, nt⟩
theorem over_c : ∀ (n : Nat) (c : Cd), SizeOf.sizeOf c < n → c.Fit → ∀ (a : Gr), a.Fit → ∀ (tok : Tks) (nt : Nat), DCall Tryz.prog 120 [a.av, c.av] tok nt (I (c.ovr a)) tok nt
 | 0, c, hn, _, a, _, tok, nt => absurd hn (Nat.not_lt_zero _)
 | n + 1, c, hn, hb, a, ha, tok, nt => by
  intro box nb
  have ih := fun x (hx : x ∈ c.kids) => over_c n x (by have := Cd.kid_lt hx; omega) (hb.kid x hx)
  have hkb := hb.kids
  rw [kidN_eq] at hkb
  have hR := c.ovr_eq a
  have hsh := shape_c c
  have hva := valid51_c a c.g c.m ha hb.g
  have hin := injective56_c a c.g c.m ha hb.g hb.m
  have hinn : (c.inn a).Fit := by unfold Cd.inn; split; exact hb.g; exact ha
  refine sB Tryz.func120 Tryz.ntmps120 ?_
  intro hbox htok
  simp only at hbox htok
  apply AL.start
  refine sR ?_
  simp
  refine sR ?_
  simp
  refine Stop.of_d (hsh _ _) ?_
  simp
  refine sR ?_
  simp
  by_cases h0 : shapeC c = 0
  ·simp [h0]
   refine sC ?_
   simp
   refine sR ?_
   simp
   refine sR ?_
   simp
   refine AL.midP ⟨tl [(6, .ptr (nb + 6) 0 0), (3, .ptr (nb + 3) 0 0)], lb nb box [(6, [(c.inn a).cells2]), (3, [c.row])], tok, nt⟩ (ovrStep a c.kind c.m c.g = 0) ?_ ?_
   ·have hst : ovrStep a c.kind c.m c.g = if c.kind = 5 then (if validM a c.g c.m ≠ 0 then validM a c.g c.m else if injM a c.g c.m = true then 0 else 1) else 0 := rfl
    by_cases k5 : c.kind = 5
    ·have hii : c.inn a = c.g := if_pos k5
     rw [if_pos k5] at hst
     simp [k5]
     refine sC ?_
     simp
     refine sR ?_
     simp
     refine sR ?_
     simp
     refine Stop.of_d (hva _ _) ?_
     simp
     refine sR ?_
     simp
     by_cases h1 : validM a c.g c.m = 0
     ·rw [if_neg (by simp [h1])] at hst
      simp [h1]
      refine sC ?_
      simp
      refine sR ?_
      simp
      refine Stop.of_d (hin _ _) ?_
      simp
      cases h2 : injM a c.g c.m
      ·simp [h2] at hst
       refine sC ?_
       simp
       refine sR ?_
       simp
       refine sT ?_
       try simp only [AU]
       refine ⟨by simp, sF hbox htok (fun _ h => h) (Nat.le_refl _) ?_⟩
       simp [packA, hR, h0, hst]
      ·simp [h2] at hst
       refine sC ?_
       simp
       refine sE ?_
       refine ⟨by simpa [k5] using hst, ?_⟩
       exact Weaks.mk (Nat.le_refl _) rfl (by simp [ToL, lk]) (by simp [BoxL, lk, hii])
     ·rw [if_pos (by simpa using h1)] at hst
      have b1 : (validM a c.g c.m != 0) = true := by simp [h1]
      simp only [b1]
      refine sC ?_
      simp
      refine sR ?_
      simp
      refine sT ?_
      try simp only [AU]
      refine ⟨by simp, sF hbox htok (fun _ h => h) (Nat.le_refl _) ?_⟩
      simp [packA, hR, h0, hst, h1]
    ·have hii : c.inn a = a := if_neg k5
     have n5 : (c.kind == 5) = false := by simp [k5]
     simp only [n5]
     refine sC ?_
     simp
     refine sE ?_
     refine ⟨by rw [hst, if_neg k5], ?_⟩
     exact Weaks.mk (Nat.le_refl _) rfl (by simp [ToL, lk]) (by simp [BoxL, lk, hii])
   ·intro hst
    rw [if_pos h0, if_pos hst] at hR
    generalize c.inn a = b at *
    refine sR ?_
    simp
    refine sN ?_
    refine AL.loopT (stOv b c nb box tok nt) (fun i => i ≤ c.kids.length ∧ ∀ x ∈ c.kids.take i, Cd.ovr x b = 0) (fun i => c.kids.length - i) 0 ⟨Nat.zero_le _, by simp⟩ (Weaks.mk (Nat.le_refl _) rfl (by simp [ToL, lk]) (by simp [BoxL, lk])) ?_
    rintro i S ⟨hi, hz⟩ hS
    simp only [stOv] at hS
    subst hS
    have hw := sW (i := i) (by omega)
    refine sR ?_
    simp
    refine sC ?_
    simp
    refine ⟨fun hlt => ?_, fun hge => ?_⟩
    ·have ihx := fun a ha => ih _ (List.getElem_mem hlt) a ha
     have hyes := errL_more (f := fun x => Cd.ovr x b) hlt hz
     have hno := errL_at (f := fun x => Cd.ovr x b) hlt hz
     refine sR ?_
     simp [hlt, Cd.cells_eq]
     generalize c.kids[i] = x at *
     refine sR ?_
     simp
     refine Stop.of_d (ihx b hinn _ _) ?_
     simp
     refine sR ?_
     simp
     by_cases h1 : x.ovr b = 0
     ·simp only [h1]
      refine sC ?_
      simp
      refine sR ?_
      simp [hw]
      refine sE ?_
      exact ⟨i + 1, ⟨hlt, hyes h1⟩, by omega, Weaks.mk (Nat.le_refl _) rfl (by simp [ToL, lk]) (by simp [BoxL, lk])⟩
     ·have b1 : (x.ovr b != 0) = true := by simp [h1]
      simp only [b1]
      refine sC ?_
      simp
      refine sR ?_
      simp
      refine sT ?_
      try simp only [AU]
      refine ⟨by simp, sF hbox htok (fun _ h => h) (Nat.le_refl _) ?_⟩
      simp [packA, hR, hno h1]
    ·refine sX ?_
     simp only [AU, ↓reduceIte]
     rw [List.take_of_length_le hge] at hz
     refine sR ?_
     simp
     refine sT ?_
     try simp only [AU]
     refine ⟨by simp, sF hbox htok (fun _ h => h) (Nat.le_refl _) ?_⟩
     simp [packA, hR, errL_all (f := fun x => Cd.ovr x b) hz]
  ·rw [if_neg h0] at hR
   have b0 : (shapeC c != 0) = true := by simp [h0]
   simp only [b0]
   refine sC ?_
   simp
   refine sR ?_
   simp
   refine sT ?_
   try simp only [AU]
   refine ⟨by simp, sF hbox htok (fun _ h => h) (Nat.le_refl _) ?_⟩
   simp [packA, hR]
def validC (a : Gr) (c : Cd) : Int := if validG a ≠ 0 then validG a else if c.ovr a ≠ 0 then c.ovr a else smallC c
theorem validC_c (a : Gr) (c : Cd) (ha : a.Fit) (hb : c.Fit) (tok : Tks) (nt : Nat) : DCall Tryz.prog 60 [a.av, c.av] tok nt (I (validC a c)) tok nt := by
 intro box nb
 have hg := graphValid_c a ha
 have ho := over_c _ c (Nat.lt_succ_self _) hb a ha
 have hs := cdSmall_c c hb.big
 refine sB Tryz.func60 Tryz.ntmps60 ?_
 intro hbox htok
 simp only at hbox htok
 apply AL.start
 try (simp)
 repeat (refine sR ?_; simp)
 refine Stop.of_d (hg _ _) ?_
 simp
 try (simp)
 repeat (refine sR ?_; simp)
 by_cases h0 : validG a = 0
 ·simp only [h0]
  refine sC ?_
  simp
  try (simp)
  repeat (refine sR ?_; simp)
  refine Stop.of_d (ho _ _) ?_
  simp
  try (simp)
  repeat (refine sR ?_; simp)
  by_cases h1 : c.ovr a = 0
  ·simp only [h1]
   refine sC ?_
   simp
   try (simp)
   repeat (refine sR ?_; simp)
   refine Stop.of_d (hs _ _) ?_
   simp
   try (simp)
   repeat (refine sR ?_; simp)
   refine sT ?_
   try simp only [AU]
   refine ⟨by simp, sF hbox htok (fun _ h => h) (Nat.le_refl _) ?_⟩
   simp [packA, validC, h0, h1]
  ·have b1 : (c.ovr a != 0) = true := by simp [h1]
   simp only [b1]
   refine sC ?_
   simp
   try (simp)
   repeat (refine sR ?_; simp)
   refine sT ?_
   try simp only [AU]
   refine ⟨by simp, sF hbox htok (fun _ h => h) (Nat.le_refl _) ?_⟩
   simp [packA, validC, h0, h1]
 ·have b0 : (validG a != 0) = true := by simp [h0]
  simp only [b0]
  refine sC ?_
  simp
  try (simp)
  repeat (refine sR ?_; simp)
  refine sT ?_
  try simp only [AU]
  refine ⟨by simp, sF hbox htok (fun _ h => h) (Nat.le_refl _) ?_⟩
  simp [packA, validC, h0]
def arrR (a b : Gr) (m : Mo) : Int := if validM a b m ≠ 0 then validM a b m else if injM a b m = true then 0 else 1
theorem cdInj_c (a b : Gr) (m : Mo) (ha : a.Fit) (hb : b.Fit) (hm : m.Fit) (tok : Tks) (nt : Nat) : DCall Tryz.prog 83 [a.av, b.av, m.av] tok nt (I (arrR a b m)) tok nt := by
 intro box nb
 have hva := valid51_c a b m ha hb
 have hin := injective56_c a b m ha hb hm
 refine sB Tryz.func83 Tryz.ntmps83 ?_
 intro hbox htok
 simp only at hbox htok
 apply AL.start
 try (simp)
 repeat (refine sR ?_; simp)
 refine Stop.of_d (hva _ _) ?_
 simp
 try (simp)
 repeat (refine sR ?_; simp)
 by_cases h0 : validM a b m = 0
 ·simp only [h0]
  refine sC ?_
  simp
  try (simp)
  repeat (refine sR ?_; simp)
  refine Stop.of_d (hin _ _) ?_
  simp
  cases h1 : injM a b m
  ·refine sC ?_
   simp
   try (simp)
   repeat (refine sR ?_; simp)
   refine sT ?_
   try simp only [AU]
   refine ⟨by simp, sF hbox htok (fun _ h => h) (Nat.le_refl _) ?_⟩
   simp [packA, arrR, h0, h1]
  ·refine sC ?_
   simp
   try (simp)
   repeat (refine sR ?_; simp)
   refine sT ?_
   try simp only [AU]
   refine ⟨by simp, sF hbox htok (fun _ h => h) (Nat.le_refl _) ?_⟩
   simp [packA, arrR, h0, h1]
 ·have b0 : (validM a b m != 0) = true := by simp [h0]
  simp only [b0]
  refine sC ?_
  simp
  try (simp)
  repeat (refine sR ?_; simp)
  refine sT ?_
  try simp only [AU]
  refine ⟨by simp, sF hbox htok (fun _ h => h) (Nat.le_refl _) ?_⟩
  simp [packA, arrR, h0]
end Go.AM
namespace Go.AM
open Go Go.Proofs
def stSz (c : Cd) (nb : Nat) (box : Bxs) (tok : Tks) (nt : Nat) (i : Nat) : AState :=
 ⟨tl [(4, I (measK c.kids i).1), (5, I (measK c.kids i).2), (6, I i), (1, .ptr (nb + 1) 0 0)], lb nb box [(1, [c.row])], tok, nt⟩
theorem size25_c : ∀ (n : Nat) (c : Cd), SizeOf.sizeOf c < n → c.Big → ∀ (tok : Tks) (nt : Nat), DCall Tryz.prog 38 [c.av] tok nt (.tup [I c.meas.1, I c.meas.2]) tok nt
 | 0, c, hn, _, tok, nt => absurd hn (Nat.not_lt_zero _)
 | n + 1, c, hn, hb, tok, nt => by
  intro box nb
  have ih := fun x (hx : x ∈ c.kids) => size25_c n x (by have := Cd.kid_lt hx; omega) (hb.kid x hx)
  have hkb := hb.kids
  rw [kidN_eq] at hkb
  have hR := c.meas_eq
  refine sB Tryz.func38 Tryz.ntmps38 ?_
  intro hbox htok
  simp only at hbox htok
  apply AL.start
  try (simp)
  repeat (refine sR ?_; simp)
  refine sN ?_
  refine AL.loopT (stSz c nb box tok nt) (fun i => i ≤ c.kids.length) (fun i => c.kids.length - i) 0 (Nat.zero_le _) (Weaks.mk (Nat.le_refl _) rfl (by simp [ToL, lk, measK_zero]) (by simp [BoxL, lk])) ?_
  rintro i S hi hS
  simp only [stSz] at hS
  subst hS
  have hw := sW (i := i) (by omega)
  refine sR ?_
  simp
  refine sC ?_
  simp
  refine ⟨fun hlt => ?_, fun hge => ?_⟩
  ·have hS := measK_succ c.kids hlt
   have ihx := ih _ (List.getElem_mem hlt)
   refine sR ?_
   simp [hlt, Cd.cells_eq]
   generalize c.kids[i] = x at *
   refine Stop.of_d (ihx _ _) ?_
   simp
   try (simp [hw])
   repeat (refine sR ?_; simp [hw])
   refine sE ?_
   exact ⟨i + 1, hlt, by omega, Weaks.mk (Nat.le_refl _) rfl (by simp [ToL, lk, hS]) (by simp [BoxL, lk])⟩
  ·refine sX ?_
   simp only [AU, ↓reduceIte]
   have : i = c.kids.length := by omega
   subst this
   try (simp)
   repeat (refine sR ?_; simp)
   by_cases h5 : c.kind = 5
   ·have hb5 : (c.kind == 5) = true := by simp [h5]
    simp only [hb5]
    refine sC ?_
    simp
    try (simp)
    repeat (refine sR ?_; simp)
    refine sT ?_
    try simp only [AU]
    refine ⟨by simp, sF hbox htok (fun _ h => h) (Nat.le_refl _) ?_⟩
    simp [packA, hR, h5]
   ·have hb5 : (c.kind == 5) = false := by simp [h5]
    simp only [hb5]
    refine sC ?_
    simp
    try (simp)
    repeat (refine sR ?_; simp)
    refine sT ?_
    try simp only [AU]
    refine ⟨by simp, sF hbox htok (fun _ h => h) (Nat.le_refl _) ?_⟩
    simp [packA, hR, h5]
end Go.AM
namespace Go.AM
open Go Go.Proofs
theorem shape_kind {c : Cd} (h : shapeC c = 0) (h5 : c.kind = 5) : c.kids.length = 1 := by
 unfold shapeC at h
 split at h
 ·rename_i hk
  simp [okC, h5] at hk
  omega
 ·omega
end Go.AM
namespace Go.AM
open Go Go.Proofs
def placesK (l h : List Int) (i : Nat) : List Int := (l.take i).map (indexI h)
@[simp] theorem placesK_len (l h : List Int) (i : Nat) : (placesK l h i).length = min i l.length := by simp [placesK]
def byK (l by' : List Int) (i : Nat) : List Int := (l.take i).map fun x => by'.getD x.toNat 0
theorem byK_zero (l h : List Int) : byK l h 0 = [] := by simp [byK]
@[simp] theorem byK_len (l h : List Int) (i : Nat) : (byK l h i).length = min i l.length := by simp [byK]
theorem byK_succ (l h : List Int) {i : Nat} (hi : i < l.length) : byK l h (i + 1) = byK l h i ++ [h.getD l[i].toNat 0] := by simp only [byK, List.take_add_one, List.getElem?_eq_getElem hi, Option.toList, List.map_append, List.map_cons, List.map_nil]
def st68 (l h : List Int) (nb : Nat) (box : Bxs) (a : Acc) : AState := ⟨tl [(0, .d (ints l)), (1, .d (ints h)), (5, .osl 1 (rI (byK l h a.i)) a.own), (6, I a.i)], lb nb box [], a.tok, a.nt⟩
theorem through68_c (l h : List Int) (hl : l.length ≤ 1000000) (hr : ∀ x ∈ l, 0 ≤ x ∧ x < h.length) (tok : Tks) (nt : Nat) : DCall Tryz.prog 79 [.d (ints l), .d (ints h)] tok nt (.d (ints (byK l h l.length))) tok nt := by
 intro box nb
 refine sB Tryz.func79 Tryz.ntmps79 ?_
 intro hbox htok
 simp only at hbox htok
 apply AL.start
 refine sR ?_
 simp
 refine sR ?_
 simp
 refine sR ?_
 simp
 refine sN ?_
 refine AL.loopT (st68 l h nb box) (fun a => a.i ≤ l.length ∧ TK tok nt a.tok a.nt [a.own]) (fun a => l.length - a.i) ⟨0, .full, tok, nt⟩ ⟨Nat.zero_le _, (TK.start htok).full⟩ (Weaks.mk (Nat.le_refl _) rfl (by simp [ToL, byK_zero]) trivial) ?_
 rintro ⟨i, own, tok', nt'⟩ S ⟨hi, htk⟩ hS
 simp only [st68] at hS hi htk
 subst hS
 have hw := sW (i := i) (by omega)
 refine sR ?_
 simp
 refine sC ?_
 simp
 refine ⟨fun hlt => ?_, fun hge => ?_⟩
 ·obtain ⟨x0, x1⟩ := hr _ (List.getElem_mem hlt)
  have x2 : l[i].toNat < h.length := by omega
  refine sR ?_
  simp [hlt, x0, x1, x2]
  refine ⟨⟨by omega, htk.live⟩, ?_⟩
  refine sR ?_
  simp [hw]
  refine sE ?_
  refine ⟨⟨i + 1, _, _, _⟩, ⟨hlt, htk.app⟩, by simp; omega, Weaks.mk htk.app.le rfl (by simp [ToL, byK_succ l h hlt, x2]) trivial⟩
 ·refine sX ?_
  simp only [AU, ↓reduceIte]
  refine sR ?_
  simp
  have : i = l.length := by omega
  subst this
  refine sT ?_
  try simp only [AU]
  refine ⟨by simp, sF hbox htok htk.old htk.le ?_⟩
  simp [packA, ]
def thenM (m n : Mo) : Mo := ⟨byK m.nodes n.nodes m.nodes.length, byK m.edges n.edges m.edges.length⟩
theorem then63_c (m n : Mo) (hm : m.Fit) (hn : ∀ x ∈ m.nodes, 0 ≤ x ∧ x < n.nodes.length) (he : ∀ x ∈ m.edges, 0 ≤ x ∧ x < n.edges.length) (tok : Tks) (nt : Nat) : DCall Tryz.prog 78 [m.av, n.av] tok nt (thenM m n).av tok nt := by
 intro box nb
 refine sB Tryz.func78 Tryz.ntmps78 ?_
 intro hbox htok
 simp only at hbox htok
 apply AL.start
 refine sR ?_
 simp
 refine sR ?_
 simp
 refine Stop.of_d (through68_c m.nodes n.nodes hm.n hn _ _) ?_
 simp
 refine Stop.of_d (through68_c m.edges n.edges hm.e he _ _) ?_
 simp
 refine sT ?_
 try simp only [AU]
 refine ⟨by simp, sF hbox htok (fun _ h => h) (Nat.le_refl _) ?_⟩
 simp [packA, thenM]
theorem firstE_all {f : Nat → Int} : ∀ n, firstE f n = 0 → ∀ i, i < n → f i = 0
 | 0, _, i, hi => absurd hi (Nat.not_lt_zero _)
 | n + 1, h, i, hi => by
  simp only [firstE] at h
  split at h
  ·rename_i h0
   by_cases e : i = n
   ·subst e; exact h
   ·exact firstE_all n h0 i (by omega)
  ·contradiction
structure VM (a b : Gr) (m : Mo) : Prop where
 va : validG a = 0
 vb : validG b = 0
 ln : m.nodes.length = a.nodes.length
 le : m.edges.length = a.edges.length
 n : ∀ x ∈ m.nodes, 0 ≤ x ∧ x < b.nodes.length
 e : ∀ x ∈ m.edges, 0 ≤ x ∧ x < b.edges.length
 nt : ∀ i, i < a.nodes.length → b.nodes.getD (m.nodes.getD i 0).toNat 0 = a.nodes.getD i 0
 et : ∀ i, i < a.edges.length → b.edges.getD (m.edges.getD i 0).toNat default = ⟨(a.edges.getD i default).ty, m.nodes.getD (a.edges.getD i default).fr.toNat 0, m.nodes.getD (a.edges.getD i default).to.toNat 0⟩
theorem validM_VM {a b : Gr} {m : Mo} (h : validM a b m = 0) : VM a b m := by
 unfold validM at h
 split at h
 ·omega
 ·rename_i h1
  split at h
  ·omega
  ·rename_i h2
   split at h
   ·cases h
   ·rename_i h3
    have hl1 : m.nodes.length = a.nodes.length := by omega
    have hl2 : m.edges.length = a.edges.length := by omega
    split at h
    ·contradiction
    ·rename_i h4
     have h4' : firstE (nodeE a b m) a.nodes.length = 0 := Decidable.not_not.1 h4
     have n1 := firstE_all _ h4'
     have n2 := firstE_all _ h
     refine ⟨by omega, by omega, hl1, hl2, fun x hx => ?_, fun x hx => ?_, fun i hi => ?_, fun i hi => ?_⟩
     ·obtain ⟨i, hi, rfl⟩ := List.getElem_of_mem hx
      have := n1 i (by omega)
      have e : m.nodes.getD i 0 = m.nodes[i] := by simp [hi]
      unfold nodeE at this
      rw [e] at this
      split at this
      ·cases this
      ·omega
     ·obtain ⟨i, hi, rfl⟩ := List.getElem_of_mem hx
      have := n2 i (by omega)
      have e : m.edges.getD i 0 = m.edges[i] := by simp [hi]
      unfold edgeE at this
      rw [e] at this
      split at this
      ·cases this
      ·omega
     ·have := n1 i hi
      unfold nodeE at this
      split at this
      ·cases this
      ·split at this
       ·assumption
       ·cases this
     ·have := n2 i hi
      unfold edgeE at this
      split at this
      ·cases this
      ·simp only at this
       split at this
       ·cases this
       ·rename_i t1
        split at this
        ·cases this
        ·rename_i t2
         have t1' := Decidable.not_not.1 t1
         simp only [ne_eq, not_or, Decidable.not_not] at t2
         rw [t1', t2.1, t2.2]
end Go.AM
namespace Go.AM
open Go Go.Proofs
def stIC (xs : List Cd) (f : FuncId) (caps : List AV) (nb : Nat) (box : Bxs) (tok : Tks) (nt : Nat) (i : Nat) : AState := ⟨tl [(0, .d (conds xs)), (1, .fn (.func f) caps), (7, I xs.length), (8, I i)], lb nb box [], tok, nt⟩
def anyC (p : Cd → Bool) (xs : List Cd) : Bool := xs.any p
theorem indexFuncC_c (xs : List Cd) (f : FuncId) (caps : List AV) (p : Cd → Bool) (hx : xs.length ≤ kidN) (box : Bxs) (nb : Nat) (tok : Tks) (nt : Nat) (hc : ∀ c ∈ caps, OkIn (fun k => box k ≠ none) (fun _ => True) c)
  (hf : ∀ x ∈ xs, ∀ box' nb', Ext box box' → ACalls Tryz.prog f (x.av :: caps) ⟨box', nb', tok, nt⟩ fun v m => v = B (p x) ∧ m = ⟨box', nb', tok, nt⟩) :
  ACalls Tryz.prog 206 [.d (conds xs), .fn (.func f) caps] ⟨box, nb, tok, nt⟩ fun v m => v = I (if anyC p xs = true then (xs.findIdx p : Nat) else -1) ∧ m = ⟨box, nb, tok, nt⟩ := by
 rw [kidN_eq] at hx
 refine sB Tryz.func206 Tryz.ntmps206 ?_
 intro hbox htok
 simp only at hbox htok
 apply AL.start
 try (simp)
 repeat (refine sR ?_; simp)
 refine sN ?_
 refine AL.loopT (stIC xs f caps nb box tok nt) (fun i => i ≤ xs.length ∧ ∀ x ∈ xs.take i, p x = false) (fun i => xs.length - i) 0 ⟨Nat.zero_le _, by simp⟩ (Weaks.mk (Nat.le_refl _) rfl (by simp [ToL]; exact .same (okFn hc hbox [] (by simp) rfl _)) trivial) ?_
 rintro i S ⟨hi, htk⟩ hS
 simp only [stIC] at hS
 subst hS
 have hw := sW (i := i) (by omega)
 try (simp)
 repeat (refine sR ?_; simp)
 refine sC ?_
 simp
 refine ⟨fun hlt => ?_, fun hge => ?_⟩
 ·have hfx := hf xs[i] (List.getElem_mem _)
  have hpx : p xs[i] = true → anyC p xs = true ∧ (xs.findIdx p = i) := fun he => any_take hlt htk he
  have hmore : p xs[i] = false → ∀ x ∈ xs.take (i + 1), p x = false := fun he x hx => by
   rw [List.take_succ_eq_append_getElem hlt] at hx
   rcases List.mem_append.1 hx with hx | hx
   ·exact htk x hx
   ·simp at hx; rw [hx]; exact he
  try (simp [hlt, Cd.cells_eq])
  repeat (refine sR ?_; simp [hlt, Cd.cells_eq])
  generalize xs[i] = x at *
  refine Stop.of_b (hfx _ _ ((Ext.refl box).lb hbox [])) ?_
  simp
  cases he : p x
  ·refine sC ?_
   simp
   try (simp [hw])
   repeat (refine sR ?_; simp [hw])
   refine sE ?_
   refine ⟨i + 1, ⟨hlt, ?_⟩, by omega, Weaks.mk (Nat.le_refl _) rfl (by simp [ToL]; exact .same (okFn hc hbox [] (by simp) rfl _)) trivial⟩
   exact hmore he
  ·obtain ⟨h1, h2⟩ := hpx he
   refine sC ?_
   simp
   try (simp)
   repeat (refine sR ?_; simp)
   refine sT ?_
   try simp only [AU]
   refine ⟨by simp, sF hbox htok (fun _ h => h) (Nat.le_refl _) ?_⟩
   simp [packA, h1, h2]
 ·refine sX ?_
  simp only [AU, ↓reduceIte]
  try (simp)
  repeat (refine sR ?_; simp)
  have hn : anyC p xs = false := by
   rw [List.take_of_length_le hge] at htk
   simpa [anyC] using htk
  refine sT ?_
  try simp only [AU]
  refine ⟨by simp, sF hbox htok (fun _ h => h) (Nat.le_refl _) ?_⟩
  simp [packA, hn]
theorem containsFuncC_c (xs : List Cd) (f : FuncId) (caps : List AV) (p : Cd → Bool) (hx : xs.length ≤ kidN) (box : Bxs) (nb : Nat) (tok : Tks) (nt : Nat) (hc : ∀ c ∈ caps, OkIn (fun k => box k ≠ none) (fun _ => True) c)
  (hf : ∀ x ∈ xs, ∀ box' nb', Ext box box' → ACalls Tryz.prog f (x.av :: caps) ⟨box', nb', tok, nt⟩ fun v m => v = B (p x) ∧ m = ⟨box', nb', tok, nt⟩) :
  ACalls Tryz.prog 147 [.d (conds xs), .fn (.func f) caps] ⟨box, nb, tok, nt⟩ fun v m => v = B (anyC p xs) ∧ m = ⟨box, nb, tok, nt⟩ := by
 refine sB Tryz.func147 Tryz.ntmps147 ?_
 intro hbox htok
 simp only at hbox htok
 apply AL.start
 try (simp)
 repeat (refine sR ?_; simp)
 refine Stop.of_b (indexFuncC_c xs f caps p hx (lb nb box []) _ _ _ (fun c h => (hc c h).mono (fun k hk => by rw [hbox]; exact hk) fun _ h => h) (fun x hx' box' nb' he => hf x hx' box' nb' (by rw [hbox] at he; exact he))) ?_
 simp
 cases hany : anyC p xs
 ·try (simp)
  repeat (refine sR ?_; simp)
  refine sT ?_
  try simp only [AU]
  refine ⟨by simp, sF hbox htok (fun _ h => h) (Nat.le_refl _) ?_⟩
  simp [packA]
 ·have h0 : (0 : Int) ≤ (xs.findIdx p : Nat) := by omega
  try (simp)
  repeat (refine sR ?_; simp)
  refine sT ?_
  try simp only [AU]
  refine ⟨by simp, sF hbox htok (fun _ h => h) (Nat.le_refl _) ?_⟩
  simp [packA, h0]
abbrev Mo.cells2 (m : Mo) : List AV := [.d (ints m.nodes), .d (ints m.edges)]
theorem yes66_c (k : Cd) (g : Gr) (m : Mo) (r : Bool) (hd : ∀ tok nt, DCall Tryz.prog 84 [k.av, g.av, m.av] tok nt (B r) tok nt) (box : Bxs) (nb k1 k2 : Nat) (tok : Tks) (nt : Nat) (h1 : box k1 = some [g.cells2]) (h2 : box k2 = some [m.cells2]) :
  ACalls Tryz.prog 145 [k.av, .ptr k1 0 0, .ptr k2 0 0] ⟨box, nb, tok, nt⟩ fun v m => v = B r ∧ m = ⟨box, nb, tok, nt⟩ := by
 refine sB Tryz.func145 Tryz.ntmps145 ?_
 intro hbox htok
 simp only at hbox htok
 apply AL.start
 have k1n := key_lt hbox h1
 have k2n := key_lt hbox h2
 try (simp [lb_out k1n, h1, lb_out k2n, h2])
 repeat (refine sR ?_; simp [lb_out k1n, h1, lb_out k2n, h2])
 refine Stop.of_d (hd _ _) ?_
 simp
 try (simp)
 repeat (refine sR ?_; simp)
 refine sT ?_
 try simp only [AU]
 refine ⟨by simp, sF hbox htok (fun _ h => h) (Nat.le_refl _) ?_⟩
 simp [packA]
theorem no67_c (k : Cd) (g : Gr) (m : Mo) (r : Bool) (hd : ∀ tok nt, DCall Tryz.prog 84 [k.av, g.av, m.av] tok nt (B r) tok nt) (box : Bxs) (nb k1 k2 : Nat) (tok : Tks) (nt : Nat) (h1 : box k1 = some [g.cells2]) (h2 : box k2 = some [m.cells2]) :
  ACalls Tryz.prog 146 [k.av, .ptr k1 0 0, .ptr k2 0 0] ⟨box, nb, tok, nt⟩ fun v m => v = B (!r) ∧ m = ⟨box, nb, tok, nt⟩ := by
 refine sB Tryz.func146 Tryz.ntmps146 ?_
 intro hbox htok
 simp only at hbox htok
 apply AL.start
 have k1n := key_lt hbox h1
 have k2n := key_lt hbox h2
 try (simp [lb_out k1n, h1, lb_out k2n, h2])
 repeat (refine sR ?_; simp [lb_out k1n, h1, lb_out k2n, h2])
 refine Stop.of_d (hd _ _) ?_
 simp
 try (simp)
 repeat (refine sR ?_; simp)
 refine sT ?_
 try simp only [AU]
 refine ⟨by simp, sF hbox htok (fun _ h => h) (Nat.le_refl _) ?_⟩
 simp [packA]
theorem acc70_c (c k : Cd) (g : Gr) (m : Mo) (r : Bool) (hl0 : 0 < c.kids.length) (hk : c.kids[0] = k) (hd : ∀ tok nt, DCall Tryz.prog 84 [k.av, g.av, m.av] tok nt (B r) tok nt) (box : Bxs) (nb k1 k2 : Nat) (tok : Tks) (nt : Nat) (h1 : box k1 = some [c.row]) (h2 : box k2 = some [g.cells2]) :
  ACalls Tryz.prog 149 [m.av, .ptr k1 0 0, .ptr k2 0 0] ⟨box, nb, tok, nt⟩ fun v m => v = B r ∧ m = ⟨box, nb, tok, nt⟩ := by
 refine sB Tryz.func149 Tryz.ntmps149 ?_
 intro hbox htok
 simp only at hbox htok
 apply AL.start
 have k1n := key_lt hbox h1
 have k2n := key_lt hbox h2
 try (simp [lb_out k1n, h1, lb_out k2n, h2, hk, hl0, Cd.cells_eq])
 repeat (refine sR ?_; simp [lb_out k1n, h1, lb_out k2n, h2, hk, hl0, Cd.cells_eq])
 refine Stop.of_d (hd _ _) ?_
 simp
 try (simp)
 repeat (refine sR ?_; simp)
 refine sT ?_
 try simp only [AU]
 refine ⟨by simp, sF hbox htok (fun _ h => h) (Nat.le_refl _) ?_⟩
 simp [packA]
def holStep (k : Int) (mm : Mo) (p g : Gr) (m : Mo) (bs : Mo → List Bool) : Bool :=
 if k = 2 then !((bs m).headD false) else if k = 3 then (bs m).all id else if k = 4 then (bs m).any id
 else if k = 5 then nodeB p g (fun q => (bs q).headD false) (imgK p.edges.length mm.edges m.edges mm.edges.length) p.nodes.length (imgK p.nodes.length mm.nodes m.nodes mm.nodes.length)
 else true
mutual
def Cd.hol : Cd → Gr → Mo → Bool
 | .mk k c mm p s v t, g, m => holStep k mm p g m (fun q => Cd.holL c g q)
def Cd.holL : List Cd → Gr → Mo → List Bool
 | [], _, _ => []
 | x :: r, g, m => Cd.hol x g m :: Cd.holL r g m
end
theorem Cd.holL_eq (g : Gr) (m : Mo) : ∀ l : List Cd, Cd.holL l g m = l.map fun x => Cd.hol x g m
 | [] => by simp [Cd.holL]
 | x :: r => by simp [Cd.holL, Cd.holL_eq g m r]
theorem Cd.hol_eq (c : Cd) (g : Gr) (m : Mo) : c.hol g m = holStep c.kind c.m c.g g m (fun q => c.kids.map fun x => Cd.hol x g q) := by
 cases c
 simp only [Cd.hol, Cd.holL_eq]
 rfl
theorem Ext.of_lk {base : Nat} {out : Bxs} {L L' : List (Nat × List (List AV))} (h : ∀ s r, lk L s = some r → lk L' s = some r) : Ext (AM.lb base out L) (AM.lb base out L') := fun k rows hk => by
 by_cases hb : k < base
 ·rw [lb_out hb] at hk ⊢; exact hk
 ·have hkk : k = base + (k - base) := by omega
  rw [hkk, lb_at] at hk ⊢
  exact h _ _ hk
structure Flm (a : Gr) (m : Mo) : Prop where
 n : m.nodes.length = a.nodes.length
 e : m.edges.length = a.edges.length
 nn : ∀ x ∈ m.nodes, 0 ≤ x
 ne : ∀ x ∈ m.edges, 0 ≤ x
theorem errL_zero {f : Cd → Int} : ∀ {l : List Cd}, errL f l = 0 → ∀ x ∈ l, f x = 0
 | [], _, x, hx => by cases hx
 | y :: r, h, x, hx => by
  simp only [errL] at h
  split at h
  ·rename_i h0
   rcases List.mem_cons.1 hx with rfl | hx
   ·exact h0
   ·exact errL_zero h x hx
  ·contradiction
theorem Cd.ovr_zero {c : Cd} {a : Gr} (h : c.ovr a = 0) : shapeC c = 0 ∧ ovrStep a c.kind c.m c.g = 0 ∧ ∀ x ∈ c.kids, x.ovr (c.inn a) = 0 := by
 rw [c.ovr_eq] at h
 split at h
 ·rename_i h0
  split at h
  ·rename_i h1
   exact ⟨h0, h1, errL_zero h⟩
  ·contradiction
 ·contradiction
theorem shape_one {c : Cd} (h : shapeC c = 0) (h5 : c.kind = 2 ∨ c.kind = 5) : 0 < c.kids.length := by
 unfold shapeC at h
 split at h
 ·rename_i hk
  rcases h5 with h5 | h5 <;> simp [okC, h5] at hk <;> omega
 ·omega
theorem all_any {l : List Bool} : l.all id = !(l.any not) := by
 induction l with
 | nil => rfl
 | cons x r ih => cases x <;> simp [ih]
theorem ThR.nil {t k sz : Nat} {es : List (List D)} : ThR t k sz es [] [] := ⟨rfl, fun i h => by simp at h⟩
theorem ThR.cons {t k sz : Nat} {es : List (List D)} {x y : AV} {r r' : List AV} (h : ThTo t k sz es x y) (hr : ThR t k sz es r r') : ThR t k sz es (x :: r) (y :: r') := by
 refine ⟨by simp [hr.1], fun i h1 h2 => ?_⟩
 match i with
 | 0 => exact h
 | i + 1 => exact hr.2 i (by simpa using h1) (by simpa using h2)
theorem ThRs.one {t k sz : Nat} {es : List (List D)} {r r' : List AV} (h : ThR t k sz es r r') : ThRs t k sz es [r] [r'] := by
 refine ⟨rfl, fun i h1 h2 => ?_⟩
 match i with
 | 0 => exact h
 | i + 1 => simp at h1
theorem ThRs.same {t k sz : Nat} {es : List (List D)} {r : List (List AV)} : ThRs t k sz es r r := ⟨rfl, fun i h1 h2 => ⟨rfl, fun j g1 g2 => .same⟩⟩
theorem imgK_neg {n : Nat} {by' m : List Int} (hm : ∀ x ∈ m, 0 ≤ x) (h : by'.length ≤ m.length) : ∀ i, i ≤ by'.length → ∀ x ∈ imgK n by' m i, x < 0 → x = -1
 | 0, _, x, hx, _ => (List.mem_replicate.1 hx).2
 | i + 1, hi, x, hx, hneg => by
  rcases List.mem_or_eq_of_mem_set hx with h1 | h1
  ·exact imgK_neg hm h i (by omega) x h1 hneg
  ·have him : i < m.length := by omega
   have := hm m[i] (List.getElem_mem him)
   simp [him] at h1
   omega
set_option maxRecDepth 100000 in
theorem holds43_c : ∀ (n : Nat) (c : Cd), SizeOf.sizeOf c < n → c.Fit → ∀ a, c.ovr a = 0 → ∀ g : Gr, g.Fit → ∀ m : Mo, Flm a m → ∀ (tok : Tks) (nt : Nat), DCall Tryz.prog 84 [c.av, g.av, m.av] tok nt (B (c.hol g m)) tok nt
 | 0, c, hn, _, _, _, _, _, _, _, tok, nt => absurd hn (Nat.not_lt_zero _)
 | n + 1, c, hn, hb, a, hv, g, hg, m, hm, tok, nt => by
  intro box nb
  have ih := fun x (hx : x ∈ c.kids) => holds43_c n x (by have := Cd.kid_lt hx; omega) (hb.kid x hx) (c.inn a) ((Cd.ovr_zero hv).2.2 x hx) g hg
  obtain ⟨hs0, hst, _⟩ := Cd.ovr_zero hv
  have hkb := hb.kids
  have hR := c.hol_eq g m
  have hsk := shape_one hs0
  have hcap : ∀ c1 ∈ [AV.ptr (nb + 4) 0 0, .ptr (nb + 5) 0 0], OkIn (fun k => lb nb box [(5, [m.cells2]), (4, [g.cells2]), (3, [c.row])] k ≠ none) (fun _ => True) c1 := by
   intro c1 hc1
   simp only [List.mem_cons, List.not_mem_nil, or_false] at hc1
   rcases hc1 with rfl | rfl
   ·exact .ptr (by simp [lb_at])
   ·exact .ptr (by simp [lb_at])
  refine sB Tryz.func84 Tryz.ntmps84 ?_
  intro hbox htok
  simp only at hbox htok
  apply AL.start
  try (simp)
  repeat (refine sR ?_; simp)
  by_cases k2 : c.kind = 2
  ·have b2 : (c.kind == 2) = true := by simp [k2]
   have hlt : 0 < c.kids.length := hsk (.inl k2)
   have hii : c.inn a = a := if_neg (by rw [k2]; decide)
   rw [hii] at ih
   have ihx := ih _ (List.getElem_mem hlt) m hm
   have hR2 : c.hol g m = !(Cd.hol c.kids[0] g m) := by
    rw [hR, holStep, if_pos k2]
    congr 1
    match c.kids, hlt with
    | y :: r, _ => rfl
   simp only [b2]
   refine sC ?_
   simp
   try (simp [hlt, Cd.cells_eq])
   repeat (refine sR ?_; simp [hlt, Cd.cells_eq])
   generalize c.kids[0] = x at *
   refine Stop.of_b (no67_c x g m _ ihx _ _ _ _ _ _ (by simp [lb_at]) (by simp [lb_at])) ?_
   simp
   try (simp)
   repeat (refine sR ?_; simp)
   refine sT ?_
   try simp only [AU]
   refine ⟨by simp, sF hbox htok (fun _ h => h) (Nat.le_refl _) ?_⟩
   simp [packA, hR2]
  ·have b2 : (c.kind == 2) = false := by simp [k2]
   simp only [b2]
   refine sC ?_
   simp
   try (simp)
   repeat (refine sR ?_; simp)
   by_cases k3 : c.kind = 3
   ·have b3 : (c.kind == 3) = true := by simp [k3]
    have hii : c.inn a = a := if_neg (by rw [k3]; decide)
    rw [hii] at ih
    have hR3 : c.hol g m = !(anyC (fun x => !(x.hol g m)) c.kids) := by
     rw [hR, holStep, if_neg k2, if_pos k3, all_any, anyC, List.any_map]
     rfl
    simp only [b3]
    refine sC ?_
    simp
    try (simp)
    repeat (refine sR ?_; simp)
    refine Stop.of_b (containsFuncC_c c.kids 146 [.ptr (nb + 4) 0 0, .ptr (nb + 5) 0 0] (fun x => !(x.hol g m)) hkb _ _ _ _ hcap (fun x hx box' nb' he => no67_c x g m _ (ih x hx m hm) _ _ _ _ _ _ (he _ _ (by simp [lb_at])) (he _ _ (by simp [lb_at])))) ?_
    simp
    try (simp)
    repeat (refine sR ?_; simp)
    refine sT ?_
    try simp only [AU]
    refine ⟨by simp, sF hbox htok (fun _ h => h) (Nat.le_refl _) ?_⟩
    simp [packA, hR3]
   ·have b3 : (c.kind == 3) = false := by simp [k3]
    simp only [b3]
    refine sC ?_
    simp
    try (simp)
    repeat (refine sR ?_; simp)
    by_cases k4 : c.kind = 4
    ·have b4 : (c.kind == 4) = true := by simp [k4]
     have hii : c.inn a = a := if_neg (by rw [k4]; decide)
     rw [hii] at ih
     have hR4 : c.hol g m = anyC (fun x => x.hol g m) c.kids := by
      rw [hR, holStep, if_neg k2, if_neg k3, if_pos k4, anyC, List.any_map]
      rfl
     simp only [b4]
     refine sC ?_
     simp
     try (simp)
     repeat (refine sR ?_; simp)
     refine Stop.of_b (containsFuncC_c c.kids 145 [.ptr (nb + 4) 0 0, .ptr (nb + 5) 0 0] (fun x => x.hol g m) hkb _ _ _ _ hcap (fun x hx box' nb' he => yes66_c x g m _ (ih x hx m hm) _ _ _ _ _ _ (he _ _ (by simp [lb_at])) (he _ _ (by simp [lb_at])))) ?_
     simp
     try (simp)
     repeat (refine sR ?_; simp)
     refine sT ?_
     try simp only [AU]
     refine ⟨by simp, sF hbox htok (fun _ h => h) (Nat.le_refl _) ?_⟩
     simp [packA, hR4]
    ·have b4 : (c.kind == 4) = false := by simp [k4]
     simp only [b4]
     refine sC ?_
     simp
     try (simp)
     repeat (refine sR ?_; simp)
     by_cases k5 : c.kind = 5
     ·have b5 : (c.kind == 5) = true := by simp [k5]
      simp only [b5]
      refine sC ?_
      simp
      try (simp)
      repeat (refine sR ?_; simp)
      have hii : c.inn a = c.g := if_pos k5
      rw [hii] at ih
      have hlt : 0 < c.kids.length := hsk (.inr k5)
      have hvm : validM a c.g c.m = 0 := by
       have h := hst
       unfold ovrStep at h
       rw [if_pos k5] at h
       split at h
       ·contradiction
       ·rename_i h1; simpa using h1
      have V := validM_VM hvm
      have hgc := hb.g
      have c1 : c.m.nodes.length = m.nodes.length := V.ln.trans hm.n.symm
      have c2 : c.m.edges.length = m.edges.length := V.le.trans hm.e.symm
      have c3 := hb.m.n
      have c4 := hb.m.e
      refine Stop.of_d (images69_c c.g.nodes.length c.m.nodes m.nodes hgc.n c3 (by omega) V.n _ _) ?_
      simp
      try (simp)
      repeat (refine sR ?_; simp)
      refine Stop.of_d (images69_c c.g.edges.length c.m.edges m.edges hgc.e c4 (by omega) V.e _ _) ?_
      simp
      have l1 : (imgK c.g.nodes.length c.m.nodes m.nodes c.m.nodes.length).length = c.g.nodes.length := imgK_len _ _ _ _
      have l2 : (imgK c.g.edges.length c.m.edges m.edges c.m.edges.length).length = c.g.edges.length := imgK_len _ _ _ _
      have n1 := imgK_neg (n := c.g.nodes.length) (by' := c.m.nodes) hm.nn (by omega) c.m.nodes.length (Nat.le_refl _)
      have n2 := imgK_neg (n := c.g.edges.length) (by' := c.m.edges) hm.ne (by omega) c.m.edges.length (Nat.le_refl _)
      have hR5 : c.hol g m = nodeB c.g g (fun q => Cd.hol c.kids[0] g q) (imgK c.g.edges.length c.m.edges m.edges c.m.edges.length) c.g.nodes.length (imgK c.g.nodes.length c.m.nodes m.nodes c.m.nodes.length) := by
       rw [hR, holStep, if_neg k2, if_neg k3, if_neg k4, if_pos k5]
       congr 1
       funext q
       match c.kids, hlt with
       | y :: r, _ => rfl
      generalize imgK c.g.nodes.length c.m.nodes m.nodes c.m.nodes.length = N0 at *
      generalize imgK c.g.edges.length c.m.edges m.edges c.m.edges.length = E0 at *
      refine sN ?_
      refine AL.weak (Weaks.mk (l' := [(10, .ptr (nb + 62) 0 0), (3, .ptr (nb + 3) 0 0), (4, .ptr (nb + 4) 0 0), (51, .ex (nt + 1) 1 (rI N0)), (60, .ex (nt + 2 + 1) 1 (rI E0))])
       (loc' := [(62, [[.d (ints c.g.nodes), .d (AM.edges c.g.edges), .d (ints g.nodes), .d (AM.edges g.edges), .ex (nt + 1) 1 (rI N0), .ex (nt + 2 + 1) 1 (rI E0), .d (.raw .nilFunc)]]), (4, [g.cells2]), (3, [c.row])]) (by omega) rfl (by simp [ToL]) (by simp [BoxL])) ?_
      refine AL.trans (Trans.thawI (l' := [(10, .ptr (nb + 62) 0 0), (3, .ptr (nb + 3) 0 0), (4, .ptr (nb + 4) 0 0), (51, .msl (nb + 51) 0 c.g.nodes.length 1), (60, .ex (nt + 2 + 1) 1 (rI E0))])
       (loc' := [(62, [[.d (ints c.g.nodes), .d (AM.edges c.g.edges), .d (ints g.nodes), .d (AM.edges g.edges), .msl (nb + 51) 0 c.g.nodes.length 1, .ex (nt + 2 + 1) 1 (rI E0), .d (.raw .nilFunc)]]), (4, [g.cells2]), (3, [c.row])])
       (nt + 1) 51 N0 51 rfl (by show 51 < 69; decide) rfl (by rw [upd_other _ _ (by omega)]; exact upd_same _ _ _) rfl
       ⟨rfl, .same, rfl, .same, rfl, .same, rfl, thTo_exI l1.symm, rfl, .same, trivial⟩
       ⟨rfl, .one (.cons .same (.cons .same (.cons .same (.cons .same (.cons (thTo_exI l1.symm) (.cons .same (.cons .same .nil))))))), rfl, .same, rfl, .same, trivial⟩) ?_
      refine AL.trans (Trans.thawI (l' := [(10, .ptr (nb + 62) 0 0), (3, .ptr (nb + 3) 0 0), (4, .ptr (nb + 4) 0 0), (51, .msl (nb + 51) 0 c.g.nodes.length 1), (60, .msl (nb + 60) 0 c.g.edges.length 1)])
       (loc' := [(51, rowsI N0), (62, [[.d (ints c.g.nodes), .d (AM.edges c.g.edges), .d (ints g.nodes), .d (AM.edges g.edges), .msl (nb + 51) 0 c.g.nodes.length 1, .msl (nb + 60) 0 c.g.edges.length 1, .d (.raw .nilFunc)]]), (4, [g.cells2]), (3, [c.row])])
       (nt + 2 + 1) 60 E0 60 rfl (by show 60 < 69; decide) rfl (by rw [upd_other _ _ (by omega)]; exact upd_same _ _ _) rfl
       ⟨rfl, .same, rfl, .same, rfl, .same, rfl, .same, rfl, thTo_exI l2.symm, trivial⟩
       ⟨rfl, .same, rfl, .one (.cons .same (.cons .same (.cons .same (.cons .same (.cons .same (.cons (thTo_exI l2.symm) (.cons .same .nil))))))), rfl, .same, rfl, .same, trivial⟩) ?_
      have htt : ∀ t, tok t = true → upd (upd (upd (upd tok (nt + 1) true) (nt + 2 + 1) true) (nt + 1) false) (nt + 2 + 1) false t = true := fun t ht => by
       have := htok t ht
       rw [upd_other _ _ (by omega), upd_other _ _ (by omega), upd_other _ _ (by omega), upd_other _ _ (by omega)]; exact ht
      generalize upd (upd (upd (upd tok (nt + 1) true) (nt + 2 + 1) true) (nt + 1) false) (nt + 2 + 1) false = tok1 at *
      try (simp)
      repeat (refine sR ?_; simp)
      have hF : ExF c.g g (nb + 62) (nb + 51) (nb + 60) (lb nb box [(4, [g.cells2]), (3, [c.row])]) :=
       ⟨hgc, hg, fun e he => validG_edges V.vb e he, by omega, by omega, by omega, by simp [lb_at, lk], by simp [lb_at, lk]⟩
      refine Stop.of_a (node71_c c.g g (fun q => Cd.hol c.kids[0] g q) 149 [.ptr (nb + 3) 0 0, .ptr (nb + 4) 0 0] (nb + 62) (nb + 51) (nb + 60) (lb nb box [(4, [g.cells2]), (3, [c.row])]) hF ?_ ?_ c.g.nodes.length 0 (by omega) N0 E0 _ _ _ _ ?_ n1 n2 (fun j hj => absurd hj (Nat.not_lt_zero _))) ?_
      ·intro c1 hc1
       simp only [List.mem_cons, List.not_mem_nil, or_false] at hc1
       rcases hc1 with rfl | rfl
       ·exact .ptr (by simp [lb_at])
       ·exact .ptr (by simp [lb_at])
      ·intro q box' nb' tok' nt' he q1 q2 q3 q4
       exact acc70_c c _ g q _ hlt rfl (ih _ (List.getElem_mem hlt) q ⟨q1, q2, q3, q4⟩) box' nb' _ _ _ _ (he _ _ (by simp [lb_at])) (he _ _ (by simp [lb_at]))
      ·refine ⟨?_, by simp [lb_at], by simp [lb_at], by simp [lb_at], l1, l2⟩
       refine Ext.of_lk fun s r hs => ?_
       rw [lk_cons, lk_cons] at hs
       by_cases e4 : s = 4
       ·subst e4; simpa [lk_cons] using hs
       ·rw [if_neg (by omega)] at hs
        by_cases e3 : s = 3
        ·subst e3; simpa [lk_cons] using hs
        ·rw [if_neg (by omega)] at hs; simp [lk] at hs
      rintro v m1 ⟨rfl, N', E', hl, hl2, hE', rfl⟩
      try (simp)
      repeat (refine sR ?_; simp)
      refine sT ?_
      try simp only [AU]
      refine ⟨by simp, Fin.gen (by simp [resAs, resA]; rfl) hbox (Nat.le_refl _) (by omega) (fun t ht => ⟨htt t ht, .inr (htok t ht)⟩) (fun k rows _ h => .inl h) (by simp [packA, hR5])⟩
     ·have b5 : (c.kind == 5) = false := by simp [k5]
      simp only [b5]
      refine sC ?_
      simp
      try (simp)
      repeat (refine sR ?_; simp)
      refine sT ?_
      try simp only [AU]
      refine ⟨by simp, sF hbox htok (fun _ h => h) (Nat.le_refl _) ?_⟩
      simp [packA, hR, holStep, k2, k3, k4, k5]
end Go.AM
namespace Go.AM
open Go Go.Proofs
def satR (a : Gr) (c : Cd) (g : Gr) (m : Mo) : Bool × Int := if arrR a g m ≠ 0 then (false, arrR a g m) else if validC a c ≠ 0 then (false, validC a c) else (c.hol g m, 0)
theorem arrR_valid {a b : Gr} {m : Mo} (h : arrR a b m = 0) : validM a b m = 0 ∧ injM a b m = true := by
 unfold arrR at h
 split at h
 ·contradiction
 ·rename_i h1
  split at h
  ·rename_i h2; exact ⟨by simpa using h1, h2⟩
  ·contradiction
theorem arrR_flm {a b : Gr} {m : Mo} (h : arrR a b m = 0) : Flm a m :=
 have V := validM_VM (arrR_valid h).1
 ⟨V.ln, V.le, fun x hx => (V.n x hx).1, fun x hx => (V.e x hx).1⟩
theorem validC_ovr {a : Gr} {c : Cd} (h : validC a c = 0) : validG a = 0 ∧ c.ovr a = 0 ∧ smallC c = 0 := by
 unfold validC at h
 split at h
 ·contradiction
 ·rename_i h1
  split at h
  ·contradiction
  ·rename_i h2; exact ⟨by simpa using h1, by simpa using h2, h⟩
theorem satisfies_c (a : Gr) (c : Cd) (g : Gr) (m : Mo) (ha : a.Fit) (hc : c.Fit) (hg : g.Fit) (hm : m.Fit) (tok : Tks) (nt : Nat) : DCall Tryz.prog 28 [a.av, c.av, g.av, m.av] tok nt (.tup [B (satR a c g m).1, I (satR a c g m).2]) tok nt := by
 intro box nb
 have hi := cdInj_c a g m ha hg hm
 have hv := validC_c a c ha hc
 have hh := fun (h1 : arrR a g m = 0) (h2 : validC a c = 0) => holds43_c _ c (Nat.lt_succ_self _) hc a (validC_ovr h2).2.1 g hg m (arrR_flm h1)
 refine sB Tryz.func28 Tryz.ntmps28 ?_
 intro hbox htok
 simp only at hbox htok
 apply AL.start
 try (simp)
 repeat (refine sR ?_; simp)
 refine Stop.of_d (hi _ _) ?_
 simp
 try (simp)
 repeat (refine sR ?_; simp)
 by_cases h0 : arrR a g m = 0
 ·simp only [h0]
  refine sC ?_
  simp
  try (simp)
  repeat (refine sR ?_; simp)
  refine Stop.of_d (hv _ _) ?_
  simp
  try (simp)
  repeat (refine sR ?_; simp)
  by_cases h1 : validC a c = 0
  ·have hh' := hh h0 h1
   simp only [h1]
   refine sC ?_
   simp
   try (simp)
   repeat (refine sR ?_; simp)
   refine Stop.of_d (hh' _ _) ?_
   simp
   try (simp)
   repeat (refine sR ?_; simp)
   refine sT ?_
   try simp only [AU]
   refine ⟨by simp, sF hbox htok (fun _ h => h) (Nat.le_refl _) ?_⟩
   simp [packA, satR, h0, h1]
  ·have b1 : (validC a c != 0) = true := by simp [h1]
   simp only [b1]
   refine sC ?_
   simp
   try (simp)
   repeat (refine sR ?_; simp)
   refine sT ?_
   try simp only [AU]
   refine ⟨by simp, sF hbox htok (fun _ h => h) (Nat.le_refl _) ?_⟩
   simp [packA, satR, h0, h1]
 ·have b0 : (arrR a g m != 0) = true := by simp [h0]
  simp only [b0]
  refine sC ?_
  simp
  try (simp)
  repeat (refine sR ?_; simp)
  refine sT ?_
  try simp only [AU]
  refine ⟨by simp, sF hbox htok (fun _ h => h) (Nat.le_refl _) ?_⟩
  simp [packA, satR, h0]
end Go.AM
namespace Go.AM
open Go Go.Proofs
structure Inn (m : Mo) (a b : Gr) : Prop where
 ln : m.nodes.length = a.nodes.length
 le : m.edges.length = a.edges.length
 n : ∀ x ∈ m.nodes, 0 ≤ x ∧ x < b.nodes.length
 e : ∀ x ∈ m.edges, 0 ≤ x ∧ x < b.edges.length
theorem Inn.of {a b : Gr} {m : Mo} (h : validM a b m = 0) : Inn m a b := have V := validM_VM h; ⟨V.ln, V.le, V.n, V.e⟩
abbrev St2 := Int × Int
def cdOf (k : Int) (kids : List Cd) : Cd := .mk k kids ⟨[], []⟩ ⟨[], []⟩ [] 0 []
end Go.AM
namespace Go.AM
open Go
variable {P : Program}
theorem EffV.val {o : Oper} {ρ : Operand → AV} {box box' : Bxs} {tok tok' : Nat → Bool} {nt nt' : Nat} {v : AV} (h : EffV P o ρ box tok nt v box' tok' nt') : isVal o.op = true := by
 unfold EffV at h
 split at h
 ·rename_i c ho
  split at h
  ·rename_i f hf
   rw [ho]
   obtain ⟨cal, args, tys⟩ := c
   simp only at hf
   subst hf
   rfl
  ·exact h.elim
 ·exact h.elim
theorem EffV.spec {o : Oper} {ρ : Operand → AV} {box box' : Bxs} {tok tok' : Nat → Bool} {nt nt' : Nat} {v : AV} (h : EffV P o ρ box tok nt v box' tok' nt') :
  ∃ x k i off rows, callPtr o.op = some x ∧ ρ x = .ptr k i off ∧ box' = upd box k (some rows) := by
 unfold EffV at h
 split at h
 ·split at h
  ·split at h
   ·obtain ⟨x, k, i, off, rows, g1, g2, g3, g4, g5⟩ := h
    exact ⟨x, k, i, off, rows, g1, g2, g4⟩
   ·exact h.elim
  ·exact h.elim
 ·exact h.elim
theorem Eff.up {wr : Bool} {base : Nat} {o : Oper} {ρ : Operand → AV} {box box' : Bxs} {tok tok' : Nat → Bool} {nt nt' : Nat} {v : AV} (h : Eff P false base o ρ box tok nt v box' tok' nt') : Eff P wr base o ρ box tok nt v box' tok' nt' := by
 unfold Eff at h ⊢
 cases hc : cls o.op <;> simp only [hc] at h ⊢ <;> first | exact h | exact .inl (t_false h)
theorem Eff.down {wr : Bool} {base : Nat} {o : Oper} {ρ : Operand → AV} {box box' : Bxs} {tok tok' : Nat → Bool} {nt nt' : Nat} {v : AV} (hv : isVal o.op = false) (h : Eff P wr base o ρ box tok nt v box' tok' nt') : Eff P false base o ρ box tok nt v box' tok' nt' := by
 unfold Eff at h ⊢
 cases hc : cls o.op <;> simp only [hc] at h ⊢ <;> first | exact h | skip
 rcases h with h | ⟨_, h⟩
 ·exact .inl h
 ·rw [h.val] at hv; cases hv
theorem Step.up {wr : Bool} {base : Nat} {o : Oper} {S S' : AState} (h : Step P false base o S S') : Step P wr base o S S' := by
 obtain ⟨v, b, t, n, h1, h2⟩ := h
 exact ⟨v, b, t, n, h1.up, h2⟩
def ptrOp3 (o : Op) : Option Operand := match ptrOp o with
 | some p => some p
 | none => callPtr o
def calm (x y : Oper) : Bool := match isVal x.op, isVal y.op with
 | true, true => false
 | true, false => decide (cls y.op = .n) || decide (cls y.op = .r)
 | false, true => decide (cls x.op = .n) || decide (cls x.op = .r)
 | false, false => !clash x y || isPtr x.op && isPtr y.op
theorem load_ptr {o : Oper} (h : cls o.op = .r) : ∃ p, ptrOp o.op = some p := by
 cases hop : o.op <;> rw [hop] at h <;> simp only [cls, reduceCtorEq] at h
 ·exact ⟨_, rfl⟩
 ·split at h <;> first | (rename_i e; cases e; done) | (cases h; done) | simp_all
theorem val_cls {o : Op} (h : isVal o = true) : cls o = .t ∧ ptrOp o = none := by
 unfold isVal at h
 split at h
 ·exact ⟨rfl, rfl⟩
 ·cases h
theorem calm_swap {base : Nat} {x y : Oper} {ρ : Operand → AV} {b0 b1 b2 : Bxs} {t0 t1 t2 : Nat → Bool} {n0 n1 n2 : Nat} {vx vy : AV} (hc : calm x y = true)
  (hk : ∀ p q, ptrOp3 x.op = some p → ptrOp3 y.op = some q → (cls x.op ≠ .r ∨ cls y.op ≠ .r) → ∀ k i off k' i' off', ρ p = .ptr k i off → ρ q = .ptr k' i' off' → k ≠ k')
  (hx : Eff P true base x ρ b0 t0 n0 vx b1 t1 n1) (hy : Eff P true base y ρ b1 t1 n1 vy b2 t2 n2) : ∃ c t n, Eff P true base y ρ b0 t0 n0 vy c t n ∧ Eff P true base x ρ c t n vx b2 t2 n2 := by
 unfold calm at hc
 cases vx' : isVal x.op <;> cases vy' : isVal y.op <;> simp only [vx', vy'] at hc
 ·have dx := hx.down vx'
  have dy := hy.down vy'
  cases hcl : clash x y with
  | false =>
   obtain ⟨c, t, n, h1, h2⟩ := eff_swap hcl dx dy
   exact ⟨c, t, n, h1.up, h2.up⟩
  | true =>
   rw [hcl] at hc
   simp only [Bool.not_true, Bool.false_or, Bool.and_eq_true] at hc
   obtain ⟨p, hp⟩ := Option.isSome_iff_exists.1 hc.1
   obtain ⟨q, hq⟩ := Option.isSome_iff_exists.1 hc.2
   have hp3 : ptrOp3 x.op = some p := by unfold ptrOp3; rw [hp]
   have hq3 : ptrOp3 y.op = some q := by unfold ptrOp3; rw [hq]
   have hr : cls x.op ≠ .r ∨ cls y.op ≠ .r := by
    by_cases e1 : cls x.op = .r
    ·by_cases e2 : cls y.op = .r
     ·simp [clash, e1, e2] at hcl
     ·exact .inr e2
    ·exact .inl e1
   obtain ⟨c, t, n, h1, h2⟩ := eff_far hp hq (hk p q hp3 hq3 hr) dx dy
   exact ⟨c, t, n, h1.up, h2.up⟩
 ·-- the call comes second
  obtain ⟨cy, py⟩ := val_cls vy'
  unfold Eff at hx hy ⊢
  simp only [Bool.or_eq_true, decide_eq_true_eq] at hc
  rcases hc with hc | hc <;> simp only [hc, cy] at hx hy ⊢
  ·obtain ⟨e, rfl, rfl, rfl⟩ := hx
   exact ⟨_, _, _, hy, e, rfl, rfl, rfl⟩
  ·obtain ⟨e, rfl, rfl, rfl⟩ := hx
   obtain ⟨p, hp⟩ := load_ptr hc
   refine ⟨_, _, _, hy, ?_, rfl, rfl, rfl⟩
   rcases hy with ⟨_, rfl⟩ | ⟨_, hv⟩
   ·exact e
   ·obtain ⟨z, k, i, off, rows, g1, g2, rfl⟩ := hv.spec
    refine effR_ptr hp hc e fun k1 i1 off1 h1 => ?_
    exact hk p z (by unfold ptrOp3; rw [hp]) (by unfold ptrOp3; rw [py]; exact g1) (.inr (by rw [cy]; decide)) _ _ _ _ _ _ h1 g2
 ·-- the call comes first
  obtain ⟨cx, px⟩ := val_cls vx'
  unfold Eff at hx hy ⊢
  simp only [Bool.or_eq_true, decide_eq_true_eq] at hc
  rcases hc with hc | hc <;> simp only [hc, cx] at hx hy ⊢
  ·obtain ⟨e, rfl, rfl, rfl⟩ := hy
   exact ⟨_, _, _, ⟨e, rfl, rfl, rfl⟩, hx⟩
  ·obtain ⟨e, rfl, rfl, rfl⟩ := hy
   obtain ⟨q, hq⟩ := load_ptr hc
   refine ⟨_, _, _, ⟨?_, rfl, rfl, rfl⟩, hx⟩
   rcases hx with ⟨_, rfl⟩ | ⟨_, hv⟩
   ·exact e
   ·obtain ⟨z, k, i, off, rows, g1, g2, rfl⟩ := hv.spec
    refine effR_back hq hc (fun k1 i1 off1 h1 => ?_) e
    exact Ne.symm (hk z q (by unfold ptrOp3; rw [px]; exact g1) (by unfold ptrOp3; rw [hq]) (.inl (by rw [cx]; decide)) _ _ _ _ _ _ g2 h1)
 ·cases hc
def regOk3 (ops : Array Oper) : Bool :=
 let an := ancs ops.toList []
 dstUniq ops && (List.range ops.size).all fun i => (match ops[i]? with | some o => (direct o).all fun j => decide (j < i) | none => true) &&
  (List.range i).all fun j => (an.getD i 0).testBit j || (match ops[j]?, ops[i]? with
   | some x, some y => Oper.apart ops x y && calm x y
   | _, _ => false)
def unPairs (ops : Array Oper) : List (Operand × Operand) :=
 let an := ancs ops.toList []
 (List.range ops.size).flatMap fun i => (List.range i).filterMap fun j => if (an.getD i 0).testBit j then none else match ops[j]?, ops[i]? with
  | some x, some y => match ptrOp3 x.op, ptrOp3 y.op with
   | some p, some q => if cls x.op = .r ∧ cls y.op = .r then none else some (p, q)
   | _, _ => none
  | _, _ => none
def FarP (S : AState) : List (Operand × Operand) → Prop
 | [] => True
 | (p, q) :: r => NK (S.ev p) (S.ev q) ∧ FarP S r
theorem FarP.at {S : AState} {p q : Operand} : ∀ {L : List (Operand × Operand)}, FarP S L → (p, q) ∈ L → NK (S.ev p) (S.ev q)
 | (a, b) :: r, h, hm => by
  rcases List.mem_cons.1 hm with e | hm
  ·cases e; exact h.1
  ·exact FarP.at h.2 hm
theorem unPairs_mem {ops : Array Oper} {i j : Nat} {x y : Oper} {p q : Operand} (hx : ops[j]? = some x) (hy : ops[i]? = some y) (hij : j < i) (hb : ((ancs ops.toList []).getD i 0).testBit j = false) (hp : ptrOp3 x.op = some p) (hq : ptrOp3 y.op = some q) (hr : cls x.op ≠ .r ∨ cls y.op ≠ .r) : (p, q) ∈ unPairs ops := by
 have his : i < ops.size := (Array.getElem?_eq_some_iff.1 hy).1
 unfold unPairs
 simp only [List.mem_flatMap, List.mem_range, List.mem_filterMap]
 refine ⟨i, his, j, hij, ?_⟩
 have hnr : ¬ (cls x.op = .r ∧ cls y.op = .r) := fun h => by rcases hr with hr | hr; exact hr h.1; exact hr h.2
 rw [hb, hx, hy]
 simp [hp, hq, hnr]
theorem any_sound3 {n nb base : Nat} {ops : Array Oper} {Q : Exit → Act → World → Prop} {Sf : AState} {G0 : Gh} {w0 : World} {b0 : Bxs} (hreg : regOk3 ops = true) (hal : allocOk ops = true) (hdst : dstOk n ops = true) (hnb : base + n ≤ nb)
  (hfar : FarP Sf (unPairs ops))
  (hQ : ∀ a' w' G', RelS n nb G' Sf a' w' → LeK base G0 w0 b0 G' w' Sf.box → Q .normal a' w') (fuel : Nat) (listed : Array Bool) (rem : List Nat) (S : AState) (a : Act) (w : World) (G : Gh) (hrem : rem = List.range ops.size) (hside : Side ops S)
  (h1 : listed.size = ops.size) (h2 : rem = (List.range ops.size).filter (fun i => !listed.getD i true)) (h3 : rem.length = fuel) (h4 : ∀ i o, ops[i]? = some o → listed.getD i false = true → ∀ j ∈ direct o, listed.getD j false = true)
  (h5 : IRun P true base ops rem S Sf) (h6 : RelS n nb G S a w) (h7 : ∀ i ∈ rem, ∀ o, ops[i]? = some o → Pend P base o G S.box) (h8 : LeK base G0 w0 b0 G w S.box) : wpAny P .any ops Q fuel listed a w := by
 unfold regOk3 at hreg
 simp only [Bool.and_eq_true] at hreg
 obtain ⟨hu, hreg⟩ := hreg
 have key : ∀ (i : Nat) (o : Oper), ops[i]? = some o → (∀ j ∈ direct o, j < i) ∧ ∀ j x, ops[j]? = some x → j < i → ((ancs ops.toList []).getD i 0).testBit j = true ∨ x.apart ops o = true ∧ calm x o = true := by
  intro i o ho
  have his : i < ops.size := (Array.getElem?_eq_some_iff.1 ho).1
  have hall := List.all_eq_true.1 hreg i (by simpa using his)
  rw [ho] at hall
  simp only [Bool.and_eq_true] at hall
  refine ⟨fun j hj => by simpa using List.all_eq_true.1 hall.1 j hj, fun j x hx hj => ?_⟩
  have h2 := List.all_eq_true.1 hall.2 j (by simpa using hj)
  rw [hx] at h2
  simpa only [Bool.or_eq_true, Bool.and_eq_true] using h2
 have start : Ivs Sf S := by
  intro t
  by_cases hd : ∃ o ∈ ops.toList, o.dst = some t
  ·obtain ⟨o, ho, hd⟩ := hd
   exact .inr (hside o ho t hd)
  ·refine .inl (irun_keeps (fun j _ x hx hxd => hd ⟨x, by simpa using Array.mem_of_getElem? hx, hxd⟩) h5).symm
 refine any_sound' (wr := true) (fun i o ho => (key i o ho).1) (Iv := Ivs Sf) (fun i o S' S'' rest ho hni hst hrun hiv => ivs_step hu i o S' S'' rest ho hni hst hrun hiv) ?_ hal hdst hnb hQ fuel listed rem S a w G h1 h2 h3 h4 start h5 h6 h7 h8
 intro i j o x ho hx hj hb S' S1 S2 hiv g1 g2
 rcases (key i o ho).2 j x hx hj with h | ⟨h, h'⟩
 ·rw [hb] at h; cases h
 ·refine gstep_swap' h (fun {c0 c1 c2 s0 s1 s2 m0 m1 m2 vx vy} e1 e2 => ?_) g1 g2
  have back : ∀ (z : Operand) k i off, S'.ev z = .ptr k i off → Sf.ev z = .ptr k i off := by
   intro z k i off hz
   cases z with
   | tmp t =>
    rcases hiv t with e | e
    ·exact e.symm.trans hz
    ·have hz' : S'.tmps t = .ptr k i off := hz
     rw [hz'] at e
     exact e.elim
   | const c => exact hz
   | global c => exact hz
   | func c => exact hz
  refine calm_swap h' (fun p q hp hq hr k i1 off k' i2 off' hk hk' => ?_) e1 e2
  have hnk := hfar.at (unPairs_mem hx ho hj hb hp hq hr)
  rw [back p _ _ _ hk, back q _ _ _ hk'] at hnk
  exact hnk
def StopW (P : Program) (o : Oper) (fid : FuncId) (args : List AV) (S : AState) (K : AState → Prop) : Prop :=
 (∃ v tok' nt', RCall P fid args S.box S.tok S.nt v tok' nt' ∧ K ⟨putT S.tmps o.dst v, S.box, tok', nt'⟩) ∨
 ∃ x k i off rows v tok' nt', callPtr o.op = some x ∧ S.ev x = .ptr k i off ∧ S.box k ≠ none ∧ WCall P fid args k S.box S.tok S.nt v rows tok' nt' ∧ K ⟨putT S.tmps o.dst v, upd S.box k (some rows), tok', nt'⟩
def FOneW (P : Program) (cx : Cx) (o : Oper) (K : AState → Prop) (S : AState) : Prop := match callFn o S.ev with
 | some (fid, args) => StopW P o fid args S K
 | none => FOne P cx true o K S
def FOpsW (P : Program) (cx : Cx) (ops : Array Oper) : List Oper → (AState → Prop) → AState → Prop
 | [], K, S => K S
 | o :: r, K, S => match o.guard with
  | none => FOneW P cx o (FOpsW P cx ops r K) S
  | some (j, want) => match yieldA ops S j with
   | some (some b) => Gd b want (FOneW P cx o (FOpsW P cx ops r K)) (FSkip o.dst (FOpsW P cx ops r K)) S
   | some none => FSkip o.dst (FOpsW P cx ops r K) S
   | none => False
theorem fOpsW_true {cx : Cx} {ops : Array Oper} {K : AState → Prop} : ∀ (l : List Oper) (S : AState), FOpsW P cx ops l K S → ∃ S', ARun P true cx.base ops l S S' ∧ K S'
 | [], S, h => ⟨S, rfl, h⟩
 | o :: r, S, h => by
  have one : FOneW P cx o (FOpsW P cx ops r K) S → ∃ S1 S', Step P true cx.base o S S1 ∧ ARun P true cx.base ops r S1 S' ∧ K S' := by
   intro h1
   unfold FOneW at h1
   split at h1
   ·rename_i fid args hc
    unfold callFn at hc
    split at hc
    ·rename_i c ho
     split at hc
     ·rename_i f hcal
      split at hc
      ·rename_i fid' caps hf
       simp only [Option.some.injEq, Prod.mk.injEq] at hc
       obtain ⟨rfl, rfl⟩ := hc
       have hcl : cls o.op = .t := by
        rw [ho]
        obtain ⟨cal, args, tys⟩ := c
        simp only at hcal
        subst hcal
        rfl
       rcases h1 with ⟨v, tok', nt', hd, hk'⟩ | ⟨x, k, i, off, rows, v, tok', nt', g1, g2, g3, hw, hk'⟩
       ·obtain ⟨S', h2, h3⟩ := fOpsW_true r _ hk'
        refine ⟨_, S', ⟨v, S.box, tok', nt', ?_, rfl⟩, h2, h3⟩
        unfold Eff
        rw [hcl]
        refine .inl ⟨.inr ?_, rfl⟩
        unfold EffC
        simp only [ho, hcal, hf]
        exact hd
       ·obtain ⟨S', h2, h3⟩ := fOpsW_true r _ hk'
        refine ⟨_, S', ⟨v, upd S.box k (some rows), tok', nt', ?_, rfl⟩, h2, h3⟩
        unfold Eff
        rw [hcl]
        refine .inr ⟨rfl, ?_⟩
        unfold EffV
        rw [ho] at g1 ⊢
        simp only [hcal, hf]
        exact ⟨x, k, i, off, rows, g1, g2, g3, rfl, hw⟩
      ·cases hc
     ·cases hc
    ·cases hc
   ·rename_i hc
    rcases fOne_cases h1 with ⟨_, S1, hs, hk⟩ | ⟨hdr, _⟩ | ⟨fid, args, hc', hk⟩
    ·obtain ⟨S', h2, h3⟩ := fOpsW_true r S1 hk
     exact ⟨S1, S', hs.up, h2, h3⟩
    ·cases hdr
    ·rw [hc] at hc'; cases hc'
  unfold FOpsW at h
  unfold ARun
  split at h
  ·rename_i hg
   obtain ⟨S1, S', h1, h2, h3⟩ := one h
   exact ⟨S', ⟨S1, by unfold GStep; rw [hg]; exact h1, h2⟩, h3⟩
  ·rename_i j want hg
   split at h
   ·rename_i b hy
    by_cases e : b = want
    ·obtain ⟨S1, S', h1, h2, h3⟩ := one (h.1 e)
     exact ⟨S', ⟨S1, by unfold GStep; rw [hg]; simp only [hy, e, ↓reduceIte]; exact h1, h2⟩, h3⟩
    ·obtain ⟨S', h2, h3⟩ := fOpsW_true r _ (h.2 (by cases b <;> cases want <;> simp_all))
     exact ⟨S', ⟨_, by unfold GStep; rw [hg]; simp only [hy, Option.some.injEq, e, ↓reduceIte], h2⟩, h3⟩
   ·rename_i hy
    obtain ⟨S', h2, h3⟩ := fOpsW_true r _ h
    exact ⟨S', ⟨_, by unfold GStep; rw [hg]; simp only [hy, reduceCtorEq, ↓reduceIte], h2⟩, h3⟩
   ·exact h.elim
def FRegW (P : Program) (cx : Cx) (ops : Array Oper) (K : AState → Prop) (S : AState) : Prop := match preF P cx.base ops.toList S.box with
 | some b => FOpsW P cx ops ops.toList K ⟨S.tmps, b, S.tok, S.nt⟩
 | none => False
theorem AL.region3 {cx : Cx} {nt0 : Nat} {K : Exit → AState → Prop} {r : List CI} {S : AState} {id : Nat} {ops : Array Oper} (hf : P.follows .mixedOrders = true) (hnb : cx.base + cx.n ≤ cx.nb) (hok : (allocOk ops && dstOk cx.n ops && regOk3 ops) = true) (hside : Side ops S) (L : List (Operand × Operand)) (hL : unPairs ops = L)
  (h : FRegW P cx ops (fun S' => FarP S' L ∧ AL P cx nt0 K r S') S) : AL P cx nt0 K (.c (.region id ops true) :: r) S := by
 simp only [AL]
 simp only [Bool.and_eq_true] at hok
 obtain ⟨⟨hal, hdst⟩, hreg⟩ := hok
 intro G0 w0 he hn G a w hr hl
 have hd := dstOk_spec hdst
 have hpre : PreB P cx.base ops.toList S.box fun b => ∃ S', ARun P true cx.base ops ops.toList { S with box := b } S' ∧ FarP S' L ∧ AL P cx nt0 K r S' := by
  unfold FRegW at h
  split at h
  ·rename_i b hb
   exact preF_sound _ _ b hb (fOpsW_true _ _ h)
  ·exact h.elim
 obtain ⟨b, hb, hr1, hp, hkeep⟩ := preB_sound hnb ops.toList S.box (S := S) hr (fun o ho d hod => hd o d (by simpa using ho) hod) (allocOk_nodup hal) hpre
 have hl1 : LeC cx G0 w0 G w { S with box := b } := ⟨hl.1, fun k hk hg => by
  rw [← hl.2 k hk hg]
  refine hkeep k fun hm => ?_
  obtain ⟨o, ho, he⟩ := List.mem_filterMap.1 hm
  split at he
  ·rename_i T s h1 h2
   simp only [Option.some.injEq] at he
   subst he
   exact absurd hk (by simp)
  ·cases he⟩
 obtain ⟨S', hrun, hfar, hK⟩ := hb
 refine wp_region_any hf ?_
 have hrd : RelS cx.n cx.nb G { S with box := b } a w.drew := hr1.drew
 have hld : LeC cx G0 w0 G w.drew { S with box := b } := hl1.step ⟨Le.drew, fun k _ hg => ⟨hg, rfl⟩⟩
 refine any_sound3 (n := cx.n) (nb := cx.nb) (base := cx.base) (Sf := S') (G0 := G) (w0 := w.drew) (b0 := b) hreg hal hdst hnb (by rw [hL]; exact hfar) (fun a' w' G' h1 h2 => ⟨S', G', hK, h1, hld.step h2⟩) ops.size (Array.replicate ops.size false) (List.range ops.size) { S with box := b } a w.drew G rfl hside (by simp) ?_ (by simp) ?_ (IRun.of_all hrun) hrd ?_ (LeK.refl _ _ _ _)
 ·rw [List.filter_eq_self.2]
  intro i hi
  simp at hi
  simp [Array.getD, hi]
 ·intro i o ho hlst
  have hi := (Array.getElem?_eq_some_iff.1 ho).1
  simp [Array.getD, hi] at hlst
 ·intro i _ o ho
  exact hp o (by simpa using Array.mem_of_getElem? ho)
theorem StopW.of_r {o : Oper} {fid : FuncId} {args : List AV} {S : AState} {K : AState → Prop} {v : AV} {tok' : Nat → Bool} {nt' : Nat} (h : RCall P fid args S.box S.tok S.nt v tok' nt') (hk : K ⟨putT S.tmps o.dst v, S.box, tok', nt'⟩) : StopW P o fid args S K := .inl ⟨v, tok', nt', h, hk⟩
theorem StopW.of_d {o : Oper} {fid : FuncId} {args : List AV} {S : AState} {K : AState → Prop} {v : AV} {tok' : Nat → Bool} {nt' : Nat} (h : DCall P fid args S.tok S.nt v tok' nt') (hk : K ⟨putT S.tmps o.dst v, S.box, tok', nt'⟩) : StopW P o fid args S K := .of_r (h.r _) hk
theorem StopW.of_w {o : Oper} {fid : FuncId} {args : List AV} {S : AState} {K : AState → Prop} {v : AV} {tok' : Nat → Bool} {nt' : Nat} {x : Operand} {k i off : Nat} {rows : List (List AV)} (hx : callPtr o.op = some x) (hp : S.ev x = .ptr k i off) (hb : S.box k ≠ none)
  (h : WCall P fid args k S.box S.tok S.nt v rows tok' nt') (hk : K ⟨putT S.tmps o.dst v, upd S.box k (some rows), tok', nt'⟩) : StopW P o fid args S K := .inr ⟨x, k, i, off, rows, v, tok', nt', hx, hp, hb, h, hk⟩
attribute [simp] FRegW FOneW callFn FarP
@[simp] theorem FOpsW_nil {cx : Cx} {ops : Array Oper} {K : AState → Prop} {t : Nat → AV} {b : Bxs} {k : Nat → Bool} {n : Nat} : FOpsW P cx ops [] K ⟨t, b, k, n⟩ = K ⟨t, b, k, n⟩ := by simp only [FOpsW]
@[simp] theorem FOpsW_cons {cx : Cx} {ops : Array Oper} {o : Oper} {r : List Oper} {K : AState → Prop} {t : Nat → AV} {b : Bxs} {k : Nat → Bool} {n : Nat} : FOpsW P cx ops (o :: r) K ⟨t, b, k, n⟩ = match o.guard with
  | none => FOneW P cx o (FOpsW P cx ops r K) ⟨t, b, k, n⟩
  | some (j, want) => match yieldA ops ⟨t, b, k, n⟩ j with
   | some (some g) => Gd g want (FOneW P cx o (FOpsW P cx ops r K)) (FSkip o.dst (FOpsW P cx ops r K)) ⟨t, b, k, n⟩
   | some none => FSkip o.dst (FOpsW P cx ops r K) ⟨t, b, k, n⟩
   | none => False := by
 simp only [FOpsW]
end Go.AM
namespace Go.AM
open Go Go.Proofs
abbrev nilS : AV := .osl 0 [] .full
abbrev z0i : AV := .d (.raw (.int .i64 0))
end Go.AM
namespace Go.AM
open Go Go.Proofs
end Go.AM
namespace Go.AM
open Go Go.Proofs
end Go.AM
namespace Go.AM
open Go
theorem getD_inj {h : List Int} (hn : h.Nodup) {i j : Nat} (hi : i < h.length) (hj : j < h.length) (e : h.getD i 0 = h.getD j 0) : i = j := by
 rw [List.getD_eq_getElem?_getD, List.getD_eq_getElem?_getD, List.getElem?_eq_getElem hi, List.getElem?_eq_getElem hj] at e
 rcases Nat.lt_trichotomy i j with h1 | h1 | h1
 ·exact absurd e (List.pairwise_iff_getElem.1 hn i j hi hj h1)
 ·exact h1
 ·exact absurd e.symm (List.pairwise_iff_getElem.1 hn j i hj hi h1)
theorem injM_iff (a b : Gr) (m : Mo) : injM a b m = true ↔ validM a b m = 0 ∧ m.nodes.Nodup ∧ m.edges.Nodup := by
 simp only [injM, Bool.and_eq_true, decide_eq_true_eq, distK_nodup]
theorem validM_of {a b : Gr} {m : Mo} (h : VM a b m) : validM a b m = 0 := by
 have z1 : firstE (nodeE a b m) a.nodes.length = 0 := firstE_zero _ fun i hi => by
  have := h.n _ (getD_mem (d := 0) (show i < m.nodes.length by rw [h.ln]; exact hi))
  unfold nodeE
  rw [if_neg (by omega), if_pos (h.nt i hi)]
 have z2 : firstE (edgeE a b m) a.edges.length = 0 := firstE_zero _ fun i hi => by
  have := h.e _ (getD_mem (d := 0) (show i < m.edges.length by rw [h.le]; exact hi))
  unfold edgeE
  rw [if_neg (by omega)]
  simp only [h.et i hi, ne_eq, not_true_eq_false, or_self, ↓reduceIte]
 unfold validM
 rw [if_neg (by simp [h.va]), if_neg (by simp [h.vb]), if_neg (by have := h.ln; have := h.le; omega), if_neg (by simp [z1]), z2]
theorem byK_ext {l by' t : List Int} (hl : l.length = t.length) (h : ∀ i, i < l.length → by'.getD (l.getD i 0).toNat 0 = t.getD i 0) : byK l by' l.length = t := by
 apply List.ext_getElem
 ·simp [hl]
 ·intro i h1 h2
  have hi : i < l.length := by omega
  have := h i hi
  simp only [List.getD_eq_getElem?_getD, List.getElem?_eq_getElem hi, List.getElem?_eq_getElem h2, Option.getD_some] at this
  simp only [byK, List.take_length, List.getElem_map, List.getD_eq_getElem?_getD]
  exact this
theorem mem_getD {l : List Int} {v : Int} (h : v ∈ l) : ∃ j, j < l.length ∧ l.getD j 0 = v := by
 obtain ⟨j, hj, e⟩ := List.getElem_of_mem h
 exact ⟨j, hj, by rw [List.getD_eq_getElem?_getD, List.getElem?_eq_getElem hj]; exact e⟩
end Go.AM
namespace Go.AM
open Go Go.Proofs
end Go.AM
namespace Go.AM
open Go Go.Proofs
def chN (ns : List Int) (bit : Nat → Bool) : Nat → List Int × List Int
 | 0 => ([], [])
 | i + 1 => if bit i = true then ((chN ns bit i).1 ++ [ns.getD i 0], (chN ns bit i).2 ++ [(i : Int)]) else chN ns bit i
def atK (ns : List Int) (bit : Nat → Bool) : Nat → List Int
 | 0 => []
 | i + 1 => if bit i = true then atK ns bit i ++ [((chN ns bit i).1.length : Int)] else atK ns bit i ++ [-1]
def atR (ns : List Int) (bit : Nat → Bool) (i : Nat) : List Int := atK ns bit i ++ List.replicate (ns.length - i) 0
theorem atK_len (ns : List Int) (bit : Nat → Bool) : ∀ i, (atK ns bit i).length = i
 | 0 => rfl
 | i + 1 => by
  simp only [atK]
  split <;> simp [atK_len ns bit i]
@[simp] theorem atR_len (ns : List Int) (bit : Nat → Bool) {i : Nat} (h : i ≤ ns.length) : (atR ns bit i).length = ns.length := by simp [atR, atK_len]; omega
end Go.AM
namespace Go.AM
open Go
end Go.AM
namespace Go.AM
open Go
end Go.AM
namespace Go.AM
open Go Go.Proofs
theorem nodup_getD {l : List Int} : l.Nodup ↔ ∀ i j, i < j → j < l.length → l.getD i 0 ≠ l.getD j 0 := by
 unfold List.Nodup
 rw [List.pairwise_iff_getElem]
 constructor
 ·intro h i j hij hj
  have := h i j (by omega) hj hij
  simpa [hj, show i < l.length by omega] using this
 ·intro h i j hi hj hij
  have := h i j hij hj
  simpa [hi, hj] using this
theorem ext_getD {l l' : List Int} (h : l.length = l'.length) (h2 : ∀ j, j < l.length → l.getD j 0 = l'.getD j 0) : l = l' :=
 List.ext_getElem h fun i h1 h3 => by have := h2 i h1; simpa [h1, h3] using this
theorem set_getD_same {l : List Int} {i : Nat} (h : i < l.length) (v : Int) : (l.set i v).getD i 0 = v := by simp [h]
theorem set_getD_other {l : List Int} {i j : Nat} (h : j ≠ i) (v : Int) : (l.set i v).getD j 0 = l.getD j 0 := by
 simp [List.getElem?_set, show ¬ i = j by omega]
def srch (ok : Nat → Nat → Bool) (n m : Nat) (fin : List Int → Bool) : Nat → List Int → Bool
 | 0, L => fin L
 | r + 1, L => if 0 ≤ L.getD (n - (r + 1)) 0 then srch ok n m fin r L
  else (List.range m).any fun k => ok (n - (r + 1)) k && !decide ((k : Int) ∈ L) && srch ok n m fin r (L.set (n - (r + 1)) k)
def NN (L : List Int) : Prop := ∀ i j, i < j → j < L.length → 0 ≤ L.getD i 0 → L.getD i 0 ≠ L.getD j 0
structure Fills (ok : Nat → Nat → Bool) (n m : Nat) (L L' : List Int) : Prop where
 l : L'.length = n
 old : ∀ j, j < n → 0 ≤ L.getD j 0 → L'.getD j 0 = L.getD j 0
 new : ∀ j, j < n → ¬ 0 ≤ L.getD j 0 → ∃ k : Nat, L'.getD j 0 = k ∧ k < m ∧ ok j k = true
 nd : L'.Nodup
theorem srch_iff (ok : Nat → Nat → Bool) (n m : Nat) (fin : List Int → Bool) : ∀ (r : Nat) (L : List Int), L.length = n → r ≤ n → (∀ j, j < n - r → 0 ≤ L.getD j 0) → NN L →
  (srch ok n m fin r L = true ↔ ∃ L', Fills ok n m L L' ∧ fin L' = true)
 | 0, L, hl, _, hp, hn => by
  simp only [srch]
  constructor
  ·intro h
   exact ⟨L, ⟨hl, fun _ _ _ => rfl, fun j hj h0 => absurd (hp j (by omega)) h0, nodup_getD.2 fun i j hij hj => hn i j hij hj (hp i (by omega))⟩, h⟩
  ·rintro ⟨L', h, h5⟩
   have : L' = L := ext_getD (by rw [h.l, hl]) fun j hj => h.old j (by rw [← h.l]; exact hj) (hp j (by have := h.l; omega))
   rwa [this] at h5
 | r + 1, L, hl, hr, hp, hn => by
  obtain ⟨i, hid⟩ : ∃ i, n - (r + 1) = i := ⟨_, rfl⟩
  have hi : i < n := by omega
  simp only [srch, hid]
  rw [hid] at hp
  by_cases h0 : 0 ≤ L.getD i 0
  ·rw [if_pos h0]
   refine srch_iff ok n m fin r L hl (by omega) (fun j hj => ?_) hn
   by_cases e : j = i
   ·subst e; exact h0
   ·exact hp j (by omega)
  ·rw [if_neg h0, List.any_eq_true]
   have g1 : ∀ (k : Nat) j, j ≠ i → (L.set i (k : Int)).getD j 0 = L.getD j 0 := fun k j e => set_getD_other e _
   have g2 : ∀ k : Nat, (L.set i (k : Int)).getD i 0 = k := fun k => set_getD_same (by omega) _
   have ihk : ∀ k : Nat, (k : Int) ∉ L → (srch ok n m fin r (L.set i (k : Int)) = true ↔ ∃ L', Fills ok n m (L.set i (k : Int)) L' ∧ fin L' = true) := fun k hk => by
    refine srch_iff ok n m fin r _ (by simp [hl]) (by omega) (fun j hj => ?_) fun a b hab hb ha => ?_
    ·by_cases e : j = i
     ·subst e; rw [g2]; omega
     ·rw [g1 k j e]; exact hp j (by omega)
    ·simp only [List.length_set] at hb
     by_cases ea : a = i
     ·subst ea
      rw [g2, g1 k b (by omega)]
      exact fun e => hk (e ▸ getD_mem hb)
     ·rw [g1 k a ea] at ha ⊢
      by_cases eb : b = i
      ·subst eb
       rw [g2]
       exact fun e => hk (e ▸ getD_mem (by omega))
      ·rw [g1 k b eb]
       exact hn a b hab hb ha
   constructor
   ·rintro ⟨k, hk, hb⟩
    simp only [List.mem_range] at hk
    simp only [Bool.and_eq_true, Bool.not_eq_true', decide_eq_false_iff_not] at hb
    obtain ⟨⟨ho, hm⟩, hs⟩ := hb
    obtain ⟨L', a, a5⟩ := (ihk k hm).1 hs
    refine ⟨L', ⟨a.l, fun j hj hj0 => ?_, fun j hj hj0 => ?_, a.nd⟩, a5⟩
    ·have hne : j ≠ i := fun e => h0 (e ▸ hj0)
     rw [a.old j hj (by rw [g1 k j hne]; exact hj0), g1 k j hne]
    ·by_cases e : j = i
     ·subst e
      exact ⟨k, by rw [a.old j hj (by rw [g2]; omega), g2], hk, ho⟩
     ·exact a.new j hj (by rw [g1 k j e]; exact hj0)
   ·rintro ⟨L', a, a5⟩
    obtain ⟨k, k1, k2, k3⟩ := a.new i hi h0
    have hm : (k : Int) ∉ L := fun hmem => by
     obtain ⟨j, hj, hje⟩ := mem_getD hmem
     have hne : j ≠ i := fun e => by subst e; rw [hje] at h0; omega
     have h1 := a.old j (by omega) (by rw [hje]; omega)
     have h2 : L'.getD j 0 = L'.getD i 0 := by rw [h1, hje, k1]
     exact hne (getD_inj a.nd (by rw [a.l]; omega) (by rw [a.l]; omega) h2)
    refine ⟨k, by simpa using k2, ?_⟩
    simp only [Bool.and_eq_true, Bool.not_eq_true', decide_eq_false_iff_not]
    refine ⟨⟨k3, hm⟩, (ihk k hm).2 ⟨L', ⟨a.l, fun j hj hj0 => ?_, fun j hj hj0 => ?_, a.nd⟩, a5⟩⟩
    ·by_cases e : j = i
     ·subst e; rw [g2, k1]
     ·rw [g1 k j e] at hj0 ⊢; exact a.old j hj hj0
    ·by_cases e : j = i
     ·subst e; rw [g2] at hj0; omega
     ·rw [g1 k j e] at hj0; exact a.new j hj hj0
theorem img_spec {n : Nat} {by' m : List Int} (hr : ∀ x ∈ by', 0 ≤ x ∧ x < n) (hnd : by'.Nodup) : ∀ i, i ≤ by'.length →
  (∀ j, j < i → (imgK n by' m i).getD (by'.getD j 0).toNat 0 = m.getD j 0) ∧ ∀ x : Nat, x < n → (∀ j, j < i → by'.getD j 0 ≠ x) → (imgK n by' m i).getD x 0 = -1
 | 0, _ => ⟨fun j hj => absurd hj (Nat.not_lt_zero _), fun x hx _ => by simp [imgK, hx]⟩
 | i + 1, hi => by
  obtain ⟨h1, h2⟩ := img_spec (m := m) hr hnd i (by omega)
  have hb := hr _ (getD_mem (d := 0) (show i < by'.length by omega))
  have hlt : (by'.getD i 0).toNat < (imgK n by' m i).length := by rw [imgK_len]; omega
  refine ⟨fun j hj => ?_, fun x hx hno => ?_⟩
  ·simp only [imgK]
   by_cases e : j = i
   ·subst e; exact set_getD_same hlt _
   ·have hb' := hr _ (getD_mem (d := 0) (show j < by'.length by omega))
    have hne : (by'.getD j 0).toNat ≠ (by'.getD i 0).toNat := fun e' => e (getD_inj hnd (by omega) (by omega) (by omega))
    rw [set_getD_other hne]
    exact h1 j (by omega)
  ·simp only [imgK]
   have := hno i (by omega)
   rw [set_getD_other (by omega)]
   exact h2 x hx fun j hj => hno j (by omega)
theorem img_cases {n : Nat} {by' m : List Int} (hr : ∀ x ∈ by', 0 ≤ x ∧ x < n) (hnd : by'.Nodup) (x : Nat) (hx : x < n) :
  (∃ j, j < by'.length ∧ by'.getD j 0 = x ∧ (imgK n by' m by'.length).getD x 0 = m.getD j 0) ∨ (∀ j, j < by'.length → by'.getD j 0 ≠ x) ∧ (imgK n by' m by'.length).getD x 0 = -1 := by
 obtain ⟨h1, h2⟩ := img_spec (m := m) hr hnd by'.length (Nat.le_refl _)
 by_cases h : ∃ j, j < by'.length ∧ by'.getD j 0 = x
 ·obtain ⟨j, hj, e⟩ := h
  refine .inl ⟨j, hj, e, ?_⟩
  have := h1 j hj
  rwa [e, Int.toNat_natCast] at this
 ·have h' : ∀ j, j < by'.length → by'.getD j 0 ≠ x := fun j hj e => h ⟨j, hj, e⟩
  exact .inr ⟨h', h2 x hx h'⟩
theorem img_NN {n : Nat} {by' m : List Int} (hr : ∀ x ∈ by', 0 ≤ x ∧ x < n) (hnd : by'.Nodup) (hl : by'.length = m.length) (hm : m.Nodup) (hp : ∀ x ∈ m, 0 ≤ x) : NN (imgK n by' m by'.length) := fun i j hij hj h0 he => by
 rw [imgK_len] at hj
 rcases img_cases (m := m) hr hnd i (by omega) with ⟨k, k1, k2, k3⟩ | ⟨_, k3⟩
 ·rcases img_cases (m := m) hr hnd j hj with ⟨q, q1, q2, q3⟩ | ⟨_, q3⟩
  ·rw [k3, q3] at he
   have := getD_inj hm (by omega) (by omega) he
   subst this
   omega
  ·have := hp _ (getD_mem (d := 0) (show k < m.length by omega))
   omega
 ·omega
structure Emb (a b : Gr) (m : Mo) : Prop where
 v : validM a b m = 0
 n : m.nodes.Nodup
 e : m.edges.Nodup
theorem Emb.vm {a b : Gr} {m : Mo} (h : Emb a b m) : VM a b m := validM_VM h.v
theorem Emb.inj {a b : Gr} {m : Mo} (h : Emb a b m) : injM a b m = true := (injM_iff a b m).2 ⟨h.v, h.n, h.e⟩
theorem Emb.of {a b : Gr} {m : Mo} (h : injM a b m = true) : Emb a b m := have h := (injM_iff a b m).1 h; ⟨h.1, h.2.1, h.2.2⟩
theorem Emb.inn {a b : Gr} {m : Mo} (h : Emb a b m) : Inn m a b := have V := h.vm; ⟨V.ln, V.le, V.n, V.e⟩
theorem byK_all (l h : List Int) : (byK l h l.length).length = l.length := by simp
theorem byK_getD {l h : List Int} {i : Nat} (hi : i < l.length) : (byK l h l.length).getD i 0 = h.getD (l.getD i 0).toNat 0 := by simp [byK, hi]
theorem nat_of {x : Int} {n : Nat} (h : 0 ≤ x ∧ x < n) : x.toNat < n ∧ ((x.toNat : Nat) : Int) = x := by omega
theorem byK_nodup {l h : List Int} {n : Nat} (hl : l.Nodup) (hh : h.Nodup) (hr : ∀ x ∈ l, 0 ≤ x ∧ x < h.length) : (byK l h l.length).Nodup := by
 rw [nodup_getD]
 intro i j hij hj
 rw [byK_all] at hj
 rw [byK_getD (by omega), byK_getD hj]
 intro e
 have h1 := hr _ (getD_mem (d := 0) (show i < l.length by omega))
 have h2 := hr _ (getD_mem (d := 0) hj)
 have := getD_inj hh (by omega) (by omega) e
 have := getD_inj hl (show i < l.length by omega) hj (by omega)
 omega
theorem Emb.comp {a b c : Gr} {m n : Mo} (h : Emb a b m) (k : Emb b c n) : Emb a c (thenM m n) := by
 have v := h.vm
 have w := k.vm
 have rn : ∀ x ∈ m.nodes, 0 ≤ x ∧ x < n.nodes.length := fun x hx => by rw [w.ln]; exact v.n x hx
 have re : ∀ x ∈ m.edges, 0 ≤ x ∧ x < n.edges.length := fun x hx => by rw [w.le]; exact v.e x hx
 have gn : ∀ i, i < a.nodes.length → (thenM m n).nodes.getD i 0 = n.nodes.getD (m.nodes.getD i 0).toNat 0 := fun i hi => byK_getD (by rw [v.ln]; exact hi)
 have ge : ∀ i, i < a.edges.length → (thenM m n).edges.getD i 0 = n.edges.getD (m.edges.getD i 0).toNat 0 := fun i hi => byK_getD (by rw [v.le]; exact hi)
 refine ⟨validM_of ⟨v.va, w.vb, by rw [← v.ln]; exact byK_all _ _, by rw [← v.le]; exact byK_all _ _, fun x hx => ?_, fun x hx => ?_, fun i hi => ?_, fun i hi => ?_⟩, byK_nodup (n := 0) h.n k.n rn, byK_nodup (n := 0) h.e k.e re⟩
 ·obtain ⟨i, hi, rfl⟩ := mem_getD hx
  have hi' : i < a.nodes.length := by rw [← v.ln]; simpa [thenM] using hi
  rw [gn i hi']
  exact w.n _ (getD_mem (nat_of (rn _ (getD_mem (by rw [v.ln]; exact hi')))).1)
 ·obtain ⟨i, hi, rfl⟩ := mem_getD hx
  have hi' : i < a.edges.length := by rw [← v.le]; simpa [thenM] using hi
  rw [ge i hi']
  exact w.e _ (getD_mem (nat_of (re _ (getD_mem (by rw [v.le]; exact hi')))).1)
 ·rw [gn i hi]
  have h1 := nat_of (v.n _ (getD_mem (d := 0) (show i < m.nodes.length by rw [v.ln]; exact hi)))
  rw [w.nt _ h1.1, v.nt i hi]
 ·rw [ge i hi]
  have h1 := nat_of (v.e _ (getD_mem (d := 0) (show i < m.edges.length by rw [v.le]; exact hi)))
  rw [w.et _ h1.1, v.et i hi]
  have hx := validG_edges v.va (a.edges.getD i default) (getD_mem hi)
  simp only
  rw [gn _ (by omega), gn _ (by omega)]
theorem thenM_assoc {a b : Gr} {m n k : Mo} (h : Inn m a b) (hn : n.nodes.length = b.nodes.length) (he : n.edges.length = b.edges.length) : thenM (thenM m n) k = thenM m (thenM n k) := by
 have e1 : ∀ (l h t : List Int), (∀ x ∈ l, 0 ≤ x ∧ x < h.length) → byK (byK l h l.length) t (byK l h l.length).length = byK l (byK h t h.length) l.length := fun l h t hr => by
  refine byK_ext (by simp) fun i hi => ?_
  rw [byK_all] at hi
  have := hr _ (getD_mem (d := 0) hi)
  rw [byK_getD hi, byK_getD hi, byK_getD (nat_of this).1]
 simp only [thenM]
 rw [e1 _ _ _ (fun x hx => by rw [hn]; exact h.n x hx), e1 _ _ _ (fun x hx => by rw [he]; exact h.e x hx)]
theorem edgeB_srch (p g : Gr) (acc : Mo → Bool) (N : List Int) : ∀ r Es, edgeB p g acc N r Es = srch (fun i k => decide (g.edges.getD k default = wantX p N i)) p.edges.length g.edges.length (fun E => acc ⟨N, E⟩) r Es
 | 0, Es => rfl
 | r + 1, Es => by simp only [edgeB, srch, edgeB_srch p g acc N r]
theorem nodeB_srch (p g : Gr) (acc : Mo → Bool) (Es : List Int) : ∀ r N, nodeB p g acc Es r N = srch (fun i k => decide (g.nodes.getD k 0 = p.nodes.getD i 0)) p.nodes.length g.nodes.length (fun N => edgeB p g acc N p.edges.length Es) r N
 | 0, N => rfl
 | r + 1, N => by simp only [nodeB, srch, nodeB_srch p g acc Es r]
theorem exists_iff {a p g : Gr} {x m : Mo} (hx : Emb a p x) (hm : Emb a g m) (acc : Mo → Bool) :
  nodeB p g acc (imgK p.edges.length x.edges m.edges x.edges.length) p.nodes.length (imgK p.nodes.length x.nodes m.nodes x.nodes.length) = true ↔ ∃ q, Emb p g q ∧ thenM x q = m ∧ acc q = true := by
 have v := hx.vm
 have w := hm.vm
 have nn1 := img_NN (m := m.nodes) v.n hx.n (by rw [v.ln, w.ln]) hm.n (fun y hy => (w.n y hy).1)
 have nn2 := img_NN (m := m.edges) v.e hx.e (by rw [v.le, w.le]) hm.e (fun y hy => (w.e y hy).1)
 have cn := fun i hi => img_cases (m := m.nodes) v.n hx.n i hi
 have ce := fun i hi => img_cases (m := m.edges) v.e hx.e i hi
 have ea := validG_edges v.va
 have ep := validG_edges v.vb
 rw [nodeB_srch, srch_iff _ _ _ _ _ _ (imgK_len _ _ _ _) (Nat.le_refl _) (fun j hj => by omega) nn1]
 constructor
 ·rintro ⟨N, fN, hN⟩
  rw [edgeB_srch, srch_iff _ _ _ _ _ _ (imgK_len _ _ _ _) (Nat.le_refl _) (fun j hj => by omega) nn2] at hN
  obtain ⟨E', fE, hE⟩ := hN
  -- the images of the places that were given
  have on : ∀ i, i < a.nodes.length → N.getD (x.nodes.getD i 0).toNat 0 = m.nodes.getD i 0 := fun i hi => by
   have hxi := v.n _ (getD_mem (d := 0) (show i < x.nodes.length by rw [v.ln]; exact hi))
   have h1 := (img_spec (m := m.nodes) v.n hx.n _ (Nat.le_refl _)).1 i (by rw [v.ln]; exact hi)
   have h2 := (w.n _ (getD_mem (d := 0) (show i < m.nodes.length by rw [w.ln]; exact hi))).1
   rw [fN.old _ (nat_of hxi).1 (by rw [h1]; exact h2), h1]
  have oe : ∀ i, i < a.edges.length → E'.getD (x.edges.getD i 0).toNat 0 = m.edges.getD i 0 := fun i hi => by
   have hxi := v.e _ (getD_mem (d := 0) (show i < x.edges.length by rw [v.le]; exact hi))
   have h1 := (img_spec (m := m.edges) v.e hx.e _ (Nat.le_refl _)).1 i (by rw [v.le]; exact hi)
   have h2 := (w.e _ (getD_mem (d := 0) (show i < m.edges.length by rw [w.le]; exact hi))).1
   rw [fE.old _ (nat_of hxi).1 (by rw [h1]; exact h2), h1]
  refine ⟨⟨N, E'⟩, ⟨validM_of ⟨v.vb, w.vb, fN.l, fE.l, fun y hy => ?_, fun y hy => ?_, fun j hj => ?_, fun j hj => ?_⟩, fN.nd, fE.nd⟩, ?_, hE⟩
  ·obtain ⟨j, hj, rfl⟩ := mem_getD hy
   rw [fN.l] at hj
   rcases cn j hj with ⟨i, hi, e, e2⟩ | ⟨_, e2⟩
   ·have := on i (by rw [← v.ln]; exact hi)
    rw [e, Int.toNat_natCast] at this
    rw [this]
    exact w.n _ (getD_mem (by rw [w.ln, ← v.ln]; exact hi))
   ·obtain ⟨k, k1, k2, _⟩ := fN.new j hj (by rw [e2]; omega)
    rw [k1]; omega
  ·obtain ⟨j, hj, rfl⟩ := mem_getD hy
   rw [fE.l] at hj
   rcases ce j hj with ⟨i, hi, e, e2⟩ | ⟨_, e2⟩
   ·have := oe i (by rw [← v.le]; exact hi)
    rw [e, Int.toNat_natCast] at this
    rw [this]
    exact w.e _ (getD_mem (by rw [w.le, ← v.le]; exact hi))
   ·obtain ⟨k, k1, k2, _⟩ := fE.new j hj (by rw [e2]; omega)
    rw [k1]; omega
  ·simp only
   rcases cn j hj with ⟨i, hi, e, e2⟩ | ⟨_, e2⟩
   ·have hi' : i < a.nodes.length := by rw [← v.ln]; exact hi
    have h1 := on i hi'
    have h3 := v.nt i hi'
    rw [e, Int.toNat_natCast] at h1 h3
    rw [h1, w.nt i hi', h3]
   ·obtain ⟨k, k1, k2, k3⟩ := fN.new j hj (by rw [e2]; omega)
    rw [k1, Int.toNat_natCast]
    exact of_decide_eq_true k3
  ·simp only
   rcases ce j hj with ⟨i, hi, e, e2⟩ | ⟨_, e2⟩
   ·have hi' : i < a.edges.length := by rw [← v.le]; exact hi
    have h1 := oe i hi'
    have h3 := v.et i hi'
    rw [e, Int.toNat_natCast] at h1 h3
    have hx' := ea (a.edges.getD i default) (getD_mem hi')
    rw [h1, w.et i hi', h3]
    simp only
    rw [on _ (by omega), on _ (by omega)]
   ·obtain ⟨k, k1, k2, k3⟩ := fE.new j hj (by rw [e2]; omega)
    rw [k1, Int.toNat_natCast]
    exact of_decide_eq_true k3
  ·simp only [thenM]
   rw [byK_ext (t := m.nodes) (by rw [v.ln, w.ln]) (fun i hi => on i (by rw [← v.ln]; exact hi)), byK_ext (t := m.edges) (by rw [v.le, w.le]) (fun i hi => oe i (by rw [← v.le]; exact hi))]
 ·rintro ⟨q, hq, he, ha⟩
  have u := hq.vm
  have qn : ∀ i, i < x.nodes.length → q.nodes.getD (x.nodes.getD i 0).toNat 0 = m.nodes.getD i 0 := fun i hi => by rw [← he]; exact (byK_getD hi).symm
  have qe : ∀ i, i < x.edges.length → q.edges.getD (x.edges.getD i 0).toNat 0 = m.edges.getD i 0 := fun i hi => by rw [← he]; exact (byK_getD hi).symm
  refine ⟨q.nodes, ⟨u.ln, fun j hj h0 => ?_, fun j hj h0 => ?_, hq.n⟩, ?_⟩
  ·rcases cn j hj with ⟨i, hi, e, e2⟩ | ⟨_, e2⟩
   ·have := qn i hi
    rw [e, Int.toNat_natCast] at this
    rw [e2, this]
   ·omega
  ·have h1 := nat_of (u.n _ (getD_mem (d := 0) (show j < q.nodes.length by rw [u.ln]; exact hj)))
   exact ⟨_, h1.2.symm, h1.1, decide_eq_true (u.nt j hj)⟩
  ·rw [edgeB_srch, srch_iff _ _ _ _ _ _ (imgK_len _ _ _ _) (Nat.le_refl _) (fun j hj => by omega) nn2]
   refine ⟨q.edges, ⟨u.le, fun j hj h0 => ?_, fun j hj h0 => ?_, hq.e⟩, ha⟩
   ·rcases ce j hj with ⟨i, hi, e, e2⟩ | ⟨_, e2⟩
    ·have := qe i hi
     rw [e, Int.toNat_natCast] at this
     rw [e2, this]
    ·omega
   ·have h1 := nat_of (u.e _ (getD_mem (d := 0) (show j < q.edges.length by rw [u.le]; exact hj)))
    exact ⟨_, h1.2.symm, h1.1, decide_eq_true (u.et j hj)⟩
end Go.AM
namespace Go.AM
open Go Go.Proofs
section
variable {α : Type} {f : α → St2 → List Cd × St2} (hs : ∀ x s, (f x s).2.2 = 0 → s.2 = 0)
include hs
end
theorem ovr_ex {c : Cd} {a : Gr} (h : c.ovr a = 0) (k5 : c.kind = 5) : Emb a c.g c.m ∧ ∃ x, c.kids = [x] := by
 obtain ⟨h0, h1, _⟩ := Cd.ovr_zero h
 have hl := shape_kind h0 k5
 rw [ovrStep, if_pos k5] at h1
 split at h1
 ·contradiction
 ·split at h1
  ·rename_i h2
   exact ⟨Emb.of h2, List.length_eq_one_iff.1 hl⟩
  ·cases h1
end Go.AM
namespace Go.AM
open Go Go.Proofs
mutual
def Cd.cnt : Cd → Nat
 | .mk _ c _ _ _ _ _ => 1 + Cd.cntL c
def Cd.cntL : List Cd → Nat
 | [] => 0
 | x :: r => Cd.cnt x + Cd.cntL r
end
mutual
def Cd.dep : Cd → Nat
 | .mk k c _ _ _ _ _ => Cd.depL c + if k = 5 then 1 else 0
def Cd.depL : List Cd → Nat
 | [] => 0
 | x :: r => max (Cd.dep x) (Cd.depL r)
end
theorem Cd.cnt_eq (c : Cd) : c.cnt = 1 + Cd.cntL c.kids := by cases c; rw [Cd.cnt]; rfl
theorem Cd.dep_eq (c : Cd) : c.dep = Cd.depL c.kids + if c.kind = 5 then 1 else 0 := by cases c; rw [Cd.dep]; rfl
mutual
theorem Cd.dep_cnt : ∀ c : Cd, c.dep ≤ c.cnt
 | .mk k c _ _ _ _ _ => by
  have := Cd.depL_cntL c
  simp only [Cd.dep, Cd.cnt]
  split <;> omega
theorem Cd.depL_cntL : ∀ l : List Cd, Cd.depL l ≤ Cd.cntL l
 | [] => by simp [Cd.depL]
 | x :: r => by
  have h1 := Cd.dep_cnt x
  have h2 := Cd.depL_cntL r
  simp only [Cd.depL, Cd.cntL]
  omega
end
mutual
theorem Cd.meas_cnt : ∀ c : Cd, c.cnt ≤ 4611686018427387904 → c.meas = ((c.cnt : Int), (c.dep : Int))
 | .mk k c _ _ _ _ _, h => by
  simp only [Cd.cnt] at h
  have h1 := Cd.measL_cnt c 1 0 h
  have h2 := Cd.depL_cntL c
  have h3 : Cd.measL c (1, 0) = (((1 + Cd.cntL c : Nat) : Int), ((max 0 (Cd.depL c) : Nat) : Int)) := h1
  rw [Cd.meas]
  simp only [h3, Cd.cnt, Cd.dep, Nat.zero_max]
  split
  ·rw [wrap_in (by omega) (by omega)]; rfl
  ·rfl
theorem Cd.measL_cnt : ∀ (l : List Cd) (s d : Nat), s + Cd.cntL l ≤ 4611686018427387904 → Cd.measL l ((s : Int), (d : Int)) = (((s + Cd.cntL l : Nat) : Int), ((max d (Cd.depL l) : Nat) : Int))
 | [], s, d, _ => by simp [Cd.measL, Cd.cntL, Cd.depL]
 | x :: r, s, d, h => by
  simp only [Cd.cntL] at h
  have h1 := Cd.meas_cnt x (by omega)
  have hw : IntKind.i64.wrap ((s : Int) + (x.cnt : Int)) = ((s + x.cnt : Nat) : Int) := by rw [wrap_in (by omega) (by omega)]; rfl
  have hm : max (d : Int) (x.dep : Int) = ((max d x.dep : Nat) : Int) := by omega
  have h2 := Cd.measL_cnt r (s + x.cnt) (max d x.dep) (by omega)
  simp only [Cd.measL, h1, hw, hm, h2, Cd.cntL, Cd.depL]
  rw [Nat.add_assoc, Nat.max_assoc]
end
theorem Cd.ovr_of {c : Cd} {a : Gr} (h1 : shapeC c = 0) (h2 : ovrStep a c.kind c.m c.g = 0) (h3 : ∀ x ∈ c.kids, x.ovr (c.inn a) = 0) : c.ovr a = 0 := by
 rw [Cd.ovr_eq, if_pos h1, if_pos h2]
 exact errL_all h3
theorem unused_cdOf (k : Int) (l : List Cd) : unusedC (cdOf k l) = true := rfl
theorem plain_cdOf (k : Int) (l : List Cd) : plainC (cdOf k l) = true := rfl
theorem shape_cdOf {c : Cd} (h : shapeC c = 0) (k5 : c.kind ≠ 5) {l : List Cd} (hl : l.length = c.kids.length) : shapeC (cdOf c.kind l) = 0 := by
 unfold shapeC at h
 split at h
 ·rename_i ho
  rw [shapeC, if_pos, if_pos (plain_cdOf _ _)]
  simp only [okC, unused_cdOf, Bool.and_true] at ho ⊢
  have e1 : (cdOf c.kind l).kind = c.kind := rfl
  have e2 : (cdOf c.kind l).kids = l := rfl
  rw [e1, e2, hl]
  split at ho
  ·rename_i q; rw [if_pos q]; exact (Bool.and_eq_true _ _ ▸ ho).1
  ·rename_i q
   rw [if_neg q]
   split at ho
   ·rename_i q; rw [if_pos q]; exact (Bool.and_eq_true _ _ ▸ ho).1
   ·rename_i q
    rw [if_neg q]
    split at ho
    ·rename_i q; rw [if_pos q]; exact (Bool.and_eq_true _ _ ▸ ho).1
    ·rename_i q
     first | cases ho | (rw [if_neg k5] at ho; cases ho)
 ·cases h
end Go.AM
namespace Go.AM
open Go Go.Proofs
theorem fit_nil : Gr.Fit ⟨[], []⟩ := ⟨by simp, by simp⟩
theorem fit_nilM : Mo.Fit ⟨[], []⟩ := ⟨by simp, by simp⟩
theorem cdOf_fit {k : Int} {l : List Cd} (hl : l.length ≤ kidN) (h : ∀ x ∈ l, x.Fit) : (cdOf k l).Fit := .mk hl fit_nilM fit_nil (by rw [bigN_eq]; simp [cdOf, Cd.sl]) (by rw [bigN_eq]; simp [cdOf, Cd.te]) h
end Go.AM
namespace Go.AM
open Go Go.Proofs
def lst {β : Type} (ok : Nat → Nat → Bool) (m : Nat) (fin : List Int → List β) : Nat → List Int → List β
 | 0, L => fin L
 | r + 1, L => (List.range m).flatMap fun (k : Nat) => if (!decide ((k : Int) ∈ L) && ok L.length k) = true then lst ok m fin r (L ++ [(k : Int)]) else []
def atB (by' of : List Int) (i k : Nat) : Bool := decide (indexI by' i < 0) || decide (of.getD (indexI by' i).toNat 0 = k)
def okXE (p g : Gr) (x m : Mo) (N : List Int) (i k : Nat) : Bool := decide (g.edges.getD k default = wantX p N i) && atB x.edges m.edges i k
def okXN (p g : Gr) (x m : Mo) (i k : Nat) : Bool := decide (g.nodes.getD k 0 = p.nodes.getD i 0) && atB x.nodes m.nodes i k
def exE (p g : Gr) (x m : Mo) (N : List Int) (r : Nat) (L : List Int) : List Mo := lst (okXE p g x m N) g.edges.length (fun E => [⟨N, E⟩]) r L
def exN (p g : Gr) (x m : Mo) (r : Nat) (L : List Int) : List Mo := lst (okXN p g x m) g.nodes.length (fun N => exE p g x m N p.edges.length []) r L
abbrev Mo.cells (m : Mo) : List D := [ints m.nodes, ints m.edges]
end Go.AM
namespace Go.AM
open Go Go.Proofs
end Go.AM
namespace Go.AM
open Go Go.Proofs
end Go.AM
namespace Go.AM
open Go Go.Proofs
inductive Cd.Bare : Cd → Prop
 | mk {c : Cd} (hs : c.sl = []) (ht : c.te = []) (h : ∀ x ∈ c.kids, Cd.Bare x) : Cd.Bare c
theorem Cd.Bare.sl {c : Cd} (h : c.Bare) : c.sl = [] := by cases h; assumption
theorem Cd.Bare.te {c : Cd} (h : c.Bare) : c.te = [] := by cases h; assumption
theorem Cd.Bare.kid {c : Cd} (h : c.Bare) : ∀ x ∈ c.kids, Cd.Bare x := by cases h; assumption
theorem bare_cdOf {k : Int} {l : List Cd} (h : ∀ x ∈ l, x.Bare) : (cdOf k l).Bare := .mk rfl rfl h
end Go.AM
namespace Go.AM
open Go Go.Proofs
@[simp] theorem lb_base (base : Nat) (out : Bxs) (loc : List (Nat × List (List AV))) : lb base out loc base = lk loc 0 := lb_at base 0 out loc
@[simp] theorem upd_lb_base (base : Nat) (out : Bxs) (loc : List (Nat × List (List AV))) (rows : List (List AV)) : upd (lb base out loc) base (some rows) = lb base out ((0, rows) :: loc) := upd_lb base 0 out loc rows
@[simp] theorem to_ptr_base {q : Nat → Prop} {fz : Option (Nat × Nat × List (List D))} {base i off : Nat} {out : Bxs} {loc : List (Nat × List (List AV))} : To (fun k => lb base out loc k ≠ none) q fz (.ptr base i off) (.ptr base i off) ↔ lk loc 0 ≠ none := to_ptr_lb (s := 0)
abbrev trueC : Cd := cdOf 1 []
theorem true33_c (tok : Tks) (nt : Nat) : DCall Tryz.prog 67 [] tok nt trueC.av tok nt := by
 intro box nb
 refine sB Tryz.func67 Tryz.ntmps67 ?_
 intro hbox htok
 simp only at hbox htok
 apply AL.start
 try (simp)
 repeat (refine sR ?_; simp)
 refine sT ?_
 try simp only [AU]
 refine ⟨by simp, sF hbox htok (fun _ h => h) (Nat.le_refl _) ?_⟩
 simp [packA, trueC, cdOf, conds, ints, AM.edges, slots, tests, Cd.kind, Cd.kids, Cd.m, Cd.g, Cd.sl, Cd.vars, Cd.te]
end Go.AM
namespace Go.AM
open Go Go.Proofs
abbrev bytes (l : List Int) : D := .sl 1 (l.map fun n => [u8 n])
def U8s (l : List Int) : Prop := ∀ c ∈ l, 0 ≤ c ∧ c < 256
theorem wrapU8 {n : Int} (h0 : 0 ≤ n) (h1 : n < 256) : IntKind.u8.wrap n = n := IntWalk.u8_in n ⟨h0, by omega⟩
structure CodeA (c : Int) : Prop where
 m2 : c.tmod 2 = c % 2
 d2 : IntKind.u8.wrap (c.tdiv 2) = c / 2
 d4 : IntKind.u8.wrap (c.tdiv 4) = c / 4
 d16 : IntKind.u8.wrap (c.tdiv 16) = c / 16
 w2 : IntKind.i64.wrap (c / 2) = c / 2
 w4 : IntKind.i64.wrap (c / 4) = c / 4
 w16 : IntKind.i64.wrap (c / 16) = c / 16
 t3 : (c / 2).tmod 3 = c / 2 % 3
 t2 : (c / 2).tmod 2 = c / 2 % 2
 n4 : ∀ n : Nat, (c / 4).tmod n = c / 4 % n
 n16 : ∀ n : Nat, (c / 16).tmod n = c / 16 % n
theorem codeA {c : Int} (h0 : 0 ≤ c) (h1 : c < 256) : CodeA c := by
 have e : ∀ k : Int, c.tdiv k = c / k := fun k => Int.tdiv_eq_ediv_of_nonneg h0
 refine ⟨Int.tmod_eq_emod_of_nonneg h0, ?_, ?_, ?_, wrap_in (by omega) (by omega), wrap_in (by omega) (by omega), wrap_in (by omega) (by omega), Int.tmod_eq_emod_of_nonneg (by omega), Int.tmod_eq_emod_of_nonneg (by omega), fun n => Int.tmod_eq_emod_of_nonneg (by omega), fun n => Int.tmod_eq_emod_of_nonneg (by omega)⟩
 ·rw [e]; exact wrapU8 (by omega) (by omega)
 ·rw [e]; exact wrapU8 (by omega) (by omega)
 ·rw [e]; exact wrapU8 (by omega) (by omega)
theorem bytes_at {l : List Int} {i : Nat} (h : i < l.length) : (l.map fun n => [u8 n])[i]? = some [u8 l[i]] := by simp [h]
structure Acc5 where
 i : Nat
 o1 : Own
 o2 : Own
 tok : Nat → Bool
 nt : Nat
def codeAt (cs : List Int) (n : Nat) : Int := cs.getD n 0
theorem outM {cs : List Int} {a b : Int} {box : Bxs} {k base : Nat} {p q : Nat → Prop} : ∀ k' rows, k' < base → (upd box k (some [[.d (bytes cs), I a, I b]])) k' = some rows → box k' = some rows ∨ ∀ r ∈ rows, ∀ x ∈ r, OkIn p q x := by
 intro k' rows hk' hr
 by_cases e : k' = k
 ·subst e
  rw [upd_same] at hr
  cases hr
  exact .inr (by simp)
 ·rw [upd_other _ _ e] at hr
  exact .inl hr
theorem next33_c (cs : List Int) (hc : U8s cs) (at1 : Nat) (left : Int) (hl : cs.length ≤ 1000) (ha : at1 ≤ 100000) (box : Bxs) (nb k : Nat) (tok : Tks) (nt : Nat) (hk : box k = some [[.d (bytes cs), I at1, I left]]) :
  ACalls Tryz.prog 144 [.ptr k 0 0] ⟨box, nb, tok, nt⟩ fun v m => v = I (codeAt cs at1) ∧ m = ⟨upd box k (some [[.d (bytes cs), I ((at1 + 1 : Nat) : Int), I left]]), nb, tok, nt⟩ := by
 refine sB Tryz.func144 Tryz.ntmps144 ?_
 intro hbox htok
 simp only at hbox htok
 apply AL.start
 have kn := key_lt hbox hk
 have hw := sW (i := at1) (by omega)
 try (simp [lb_out kn, hk, upd_lb_out kn, upd_same, hw])
 repeat (refine sR ?_; simp [lb_out kn, hk, upd_lb_out kn, upd_same, hw])
 by_cases hlt : at1 < cs.length
 ·have b1 : decide ((cs.length : Int) < (at1 : Int) + 1) = false := decide_eq_false (by omega)
  have hx : codeAt cs at1 = cs[at1] := by simp [codeAt, hlt]
  obtain ⟨c0, c1⟩ := hc _ (List.getElem_mem hlt)
  have hw2 : IntKind.i64.wrap (at1 : Int) = (at1 : Int) := wrap_in (by omega) (by omega)
  have hmp : (cs.map fun n => [u8 n])[at1]? = some [u8 cs[at1]] := bytes_at hlt
  have hw3 : IntKind.i64.wrap cs[at1] = cs[at1] := wrap_in (by omega) (by omega)
  simp only [b1]
  refine sC ?_
  simp
  try (simp [lb_out kn, hk, upd_lb_out kn, upd_same, hw2, bytes_at hlt, hlt, hw3])
  repeat (refine sR ?_; simp [lb_out kn, hk, upd_lb_out kn, upd_same, hw2, bytes_at hlt, hlt, hw3])
  refine sT ?_
  try simp only [AU]
  exact ⟨by simp, (Fin.gen (av := I cs[at1]) (tok' := tok) (nt' := nt) (by simp [resAs, resA, lk]; rfl) (by rw [← upd_lb_out kn, hbox]) (Nat.le_refl _) (Nat.le_refl _) (fun t ht => ⟨ht, .inl rfl⟩) outM (by simp [packA])).mono fun v m hq => by rw [hx]; exact hq⟩
 ·have b1 : decide ((cs.length : Int) < (at1 : Int) + 1) = true := decide_eq_true (by omega)
  have hx : codeAt cs at1 = 0 := by simp [codeAt]; rw [List.getElem?_eq_none (by omega)]; rfl
  simp only [b1]
  refine sC ?_
  simp
  try (simp [lb_out kn, hk, upd_lb_out kn, upd_same])
  repeat (refine sR ?_; simp [lb_out kn, hk, upd_lb_out kn, upd_same])
  refine sT ?_
  try simp only [AU]
  exact ⟨by simp, (Fin.gen (av := I 0) (tok' := tok) (nt' := nt) (by simp [resAs, resA, lk]; rfl) (by rw [← upd_lb_out kn, hbox]) (Nat.le_refl _) (Nat.le_refl _) (fun t ht => ⟨ht, .inl rfl⟩) outM (by simp [packA])).mono fun v m hq => by rw [hx]; exact hq⟩
def mkG (a : Gr) (c : Int) : Gr :=
 let n1 := if a.nodes.length = 0 ∨ (c / 8 % 3 ≠ 2 ∧ a.nodes.length < 4) then a.nodes ++ [c / 32 % 3] else a.nodes
 ⟨n1, if c / 8 % 3 ≠ 0 ∧ a.edges.length < 3 then a.edges ++ [⟨c / 64 % 2, c / 16 % n1.length, n1.length - 1⟩] else a.edges⟩
structure CodeB (c : Int) : Prop where
 d8 : IntKind.i64.wrap (c.tdiv 8) = c / 8
 d16 : IntKind.i64.wrap (c.tdiv 16) = c / 16
 d32 : IntKind.i64.wrap (c.tdiv 32) = c / 32
 d64 : IntKind.i64.wrap (c.tdiv 64) = c / 64
 t8 : (c / 8).tmod 3 = c / 8 % 3
 t32 : (c / 32).tmod 3 = c / 32 % 3
 t64 : (c / 64).tmod 2 = c / 64 % 2
 n16 : ∀ n : Nat, (c / 16).tmod n = c / 16 % n
theorem codeB {c : Int} (h0 : 0 ≤ c) (h1 : c < 256) : CodeB c := by
 have e : ∀ k : Int, c.tdiv k = c / k := fun k => Int.tdiv_eq_ediv_of_nonneg h0
 refine ⟨?_, ?_, ?_, ?_, Int.tmod_eq_emod_of_nonneg (by omega), Int.tmod_eq_emod_of_nonneg (by omega), Int.tmod_eq_emod_of_nonneg (by omega), fun n => Int.tmod_eq_emod_of_nonneg (by omega)⟩
 all_goals rw [e]; exact wrap_in (by omega) (by omega)
theorem mkG_nodes (a : Gr) (c : Int) : (mkG a c).nodes = if a.nodes.length = 0 ∨ (c / 8 % 3 ≠ 2 ∧ a.nodes.length < 4) then a.nodes ++ [c / 32 % 3] else a.nodes := rfl
theorem mkG_edges (a : Gr) (c : Int) : (mkG a c).edges = if c / 8 % 3 ≠ 0 ∧ a.edges.length < 3 then a.edges ++ [⟨c / 64 % 2, c / 16 % (mkG a c).nodes.length, (mkG a c).nodes.length - 1⟩] else a.edges := rfl
theorem mkG_len (a : Gr) (c : Int) : 0 < (mkG a c).nodes.length ∧ (mkG a c).nodes.length ≤ a.nodes.length + 1 ∧ (mkG a c).edges.length ≤ a.edges.length + 1 := by
 refine ⟨?_, ?_, ?_⟩
 ·rw [mkG_nodes]
  split
  ·simp
  ·rename_i h; simp only [not_or] at h; omega
 ·rw [mkG_nodes]; split <;> simp
 ·rw [mkG_edges]; split <;> simp
def mkEx (a : Gr) (g : Gr) (x : Cd) : Cd := .mk 5 [x] (idM a) g [] 0 []
def mkC (cs : List Int) : Nat → Gr → Nat → Nat → Int → Cd × Nat × Int
 | 0, _, _, at1, left => (trueC, at1 + 1, left - 1)
 | r + 1, a, d, at1, left =>
  let c := codeAt cs at1
  if left - 1 < 2 then (trueC, at1 + 1, left - 1)
  else if c % 6 = 1 then let k := mkC cs r a d (at1 + 1) (left - 1); (cdOf 2 [k.1], k.2)
  else if c % 6 = 2 ∨ c % 6 = 3 then let k := mkC cs r a d (at1 + 1) (left - 1); let k2 := mkC cs r a d k.2.1 k.2.2; (cdOf (c % 6 + 1) [k.1, k2.1], k2.2)
  else if c % 6 = 4 ∨ c % 6 = 5 then
   if d = 0 then (trueC, at1 + 1, left - 1) else let k := mkC cs r (mkG a c) (d - 1) (at1 + 1) (left - 1); (mkEx a (mkG a c) k.1, k.2)
  else (trueC, at1 + 1, left - 1)
theorem mkC_bd (cs : List Int) : ∀ (r : Nat) (a : Gr) (d at1 : Nat) (left : Int), (mkC cs r a d at1 left).2.1 + 1 ≤ at1 + 2 ^ (r + 1) ∧ left + 1 ≤ (mkC cs r a d at1 left).2.2 + 2 ^ (r + 1) ∧ (mkC cs r a d at1 left).2.2 ≤ left - 1
  | 0, a, d, at1, left => by simp only [mkC]; omega
  | r + 1, a, d, at1, left => by
    have e : 2 ^ (r + 1 + 1) = 2 * 2 ^ (r + 1) := by rw [Nat.pow_succ]; omega
    have e' : (2 : Int) ^ (r + 1 + 1) = 2 * 2 ^ (r + 1) := by rw [Int.pow_succ]; omega
    have p : 1 ≤ 2 ^ (r + 1) := Nat.one_le_two_pow
    have p' : (1 : Int) ≤ 2 ^ (r + 1) := by have : ((2 ^ (r + 1) : Nat) : Int) = (2 : Int) ^ (r + 1) := by simp
                                            omega
    simp only [mkC]
    split
    · simp only; omega
    · split
      · have := mkC_bd cs r a d (at1 + 1) (left - 1)
        simp only; omega
      · split
        · have h1 := mkC_bd cs r a d (at1 + 1) (left - 1)
          have h2 := mkC_bd cs r a d (mkC cs r a d (at1 + 1) (left - 1)).2.1 (mkC cs r a d (at1 + 1) (left - 1)).2.2
          simp only; omega
        · split
          · split
            · simp only; omega
            · have := mkC_bd cs r (mkG a (codeAt cs at1)) (d - 1) (at1 + 1) (left - 1)
              simp only; omega
          · simp only; omega
theorem AL.midT {cx : Cx} {nt0 : Nat} {K : Exit → AState → Prop} {r : List CI} {S : AState} {x y : Code} {α : Type} (T : α → AState) (inv : α → Prop)
  (h1 : AL Tryz.prog cx nt0 (fun e S' => match e with
   | .normal => ∃ a, inv a ∧ Weaks cx nt0 S' (T a)
   | e => AU Tryz.prog cx nt0 K (.c y :: r) e S') [.c x] S) (h2 : ∀ a, inv a → AL Tryz.prog cx nt0 K (.c y :: r) (T a)) : AL Tryz.prog cx nt0 K (.c x :: .c y :: r) S := by
 have h3 := AL.start h1
 simp only [AL] at h2 ⊢
 refine h3.mono fun e S' h => ?_
 cases e with
 | normal =>
  obtain ⟨a, ha, hw⟩ := h
  exact AT.weaks hw (h2 a ha)
 | _ => exact h
def stM1 (a : Gr) (cs n1 : List Int) (c : Int) (at1 : Nat) (left : Int) (d k nb : Nat) (box : Bxs) (y : Acc5) : AState :=
 ⟨tl [(9, .ptr (nb + 9) 0 0), (7, I c), (6, .ptr (nb + 6) 0 0), (4, .ptr (nb + 4) 0 0), (0, .ptr k 0 0), (2, I d)],
  lb nb (upd box k (some [[.d (bytes cs), I (at1 + 1), I left]])) [(9, [[.osl 1 (rI n1) y.o1, .osl 3 (rE a.edges) y.o2]]), (4, [a.cells2]), (6, [[z0i, nilS, nilS, nilS, nilS, nilS, nilS, z0i, nilS]])], y.tok, y.nt⟩
def stM2 (a : Gr) (cs : List Int) (G : Gr) (c : Int) (at1 : Nat) (left : Int) (d k nb : Nat) (box : Bxs) (y : Acc5) : AState :=
 ⟨tl [(9, .ptr (nb + 9) 0 0), (7, I c), (6, .ptr (nb + 6) 0 0), (4, .ptr (nb + 4) 0 0), (0, .ptr k 0 0), (2, I d)],
  lb nb (upd box k (some [[.d (bytes cs), I (at1 + 1), I left]])) [(9, [G.cells2]), (4, [a.cells2]), (6, [[z0i, nilS, nilS, nilS, nilS, nilS, nilS, z0i, nilS]])], y.tok, y.nt⟩
def QMk (cs : List Int) (r : Cd × Nat × Int) (k : Nat) (box : Bxs) (nb : Nat) (tok : Tks) (nt : Nat) (v : AV) (m : AMem) : Prop :=
 v = r.1.av ∧ m = ⟨upd box k (some [[.d (bytes cs), I r.2.1, I r.2.2]]), nb, tok, nt⟩
theorem code_in {cs : List Int} (hc : U8s cs) (n : Nat) : 0 ≤ codeAt cs n ∧ codeAt cs n < 256 := by
 unfold codeAt
 by_cases h : n < cs.length
 ·exact hc _ (getD_mem h)
 ·simp only [List.getD_eq_getElem?_getD]
  rw [List.getElem?_eq_none (by omega)]
  exact ⟨by decide, by decide⟩
set_option maxRecDepth 100000 in
theorem make61_c (cs : List Int) (hc : U8s cs) (hl : cs.length ≤ 1000) : ∀ (n r : Nat), r < n → ∀ (a : Gr) (d at1 : Nat) (left : Int), a.nodes.length + r ≤ 1000 → a.edges.length + r ≤ 1000 → at1 + 2 ^ (r + 1) ≤ 100000 → left ≤ r + 2 → -100000 ≤ left - 2 ^ (r + 1) → d ≤ 10 →
    ∀ (box : Bxs) (nb k : Nat) (tok : Tks) (nt : Nat), box k = some [[.d (bytes cs), I at1, I left]] →
    ACalls Tryz.prog 82 [.ptr k 0 0, a.av, I d] ⟨box, nb, tok, nt⟩ (QMk cs (mkC cs r a d at1 left) k box nb tok nt) := by
  intro n
  induction n with
  | zero => intro r hn; exact absurd hn (Nat.not_lt_zero _)
  | succ n IH =>
    intro r hrn a d at1 left han hae hat hlf hl0 hd box nb k tok nt hk
    have p : 1 ≤ 2 ^ r := Nat.one_le_two_pow
    have p1 : 2 ^ (r + 1) = 2 * 2 ^ r := by rw [Nat.pow_succ]; omega
    have p' : (1 : Int) ≤ 2 ^ r := by have : ((2 ^ r : Nat) : Int) = (2 : Int) ^ r := by simp
                                      omega
    have p1' : (2 : Int) ^ (r + 1) = 2 * 2 ^ r := by rw [Int.pow_succ]; omega
    have hnx := next33_c cs hc at1 left hl (by omega)
    have hwl : IntKind.i64.wrap (left - 1) = left - 1 := wrap_in (by omega) (by omega)
    refine sB Tryz.func82 Tryz.ntmps82 ?_
    intro hbox htok
    simp only at hbox htok
    apply AL.start
    have kn := key_lt hbox hk
    refine sR ?_
    simp
    refine sR ?_
    simp [lb_out kn, hk, upd_lb_out kn, upd_same]
    refine Stop.of_a (hnx _ _ k _ _ (by simp only; rw [lb_out kn, hk])) ?_
    rintro v m' ⟨rfl, rfl⟩
    simp [upd_lb_out kn]
    try (simp [lb_out kn, upd_lb_out kn, upd_same, upd_upd, hwl])
    repeat (refine sR ?_; simp [lb_out kn, upd_lb_out kn, upd_same, upd_upd, hwl])
    by_cases h2 : left - 1 < 2
    · have hM : mkC cs r a d at1 left = (trueC, at1 + 1, left - 1) := by
        cases r with
        | zero => rfl
        | succ r => simp only [mkC]; rw [if_pos h2]
      have b2 : decide (left - 1 < 2) = true := decide_eq_true h2
      simp only [b2]
      refine sC ?_
      simp
      try (simp)
      repeat (refine sR ?_; simp)
      refine Stop.of_d (true33_c _ _) ?_
      simp
      refine sT ?_
      try simp only [AU]
      exact ⟨by simp, (Fin.gen (av := trueC.av) (tok' := tok) (nt' := nt) (by simp [resAs, resA, lk]; rfl) (by rw [← upd_lb_out kn, hbox]) (Nat.le_refl _) (Nat.le_refl _) (fun t ht => ⟨ht, .inl rfl⟩) outM (by simp [packA])).mono fun v m hq => by rw [hM]; exact hq⟩
    · cases r with
      | zero => exact absurd (by omega) h2
      | succ r =>
        have b2 : decide (left - 1 < 2) = false := decide_eq_false h2
        obtain ⟨c0, c1⟩ := code_in hc at1
        have hM : mkC cs (r + 1) a d at1 left = if codeAt cs at1 % 6 = 1 then (cdOf 2 [(mkC cs r a d (at1 + 1) (left - 1)).1], (mkC cs r a d (at1 + 1) (left - 1)).2)
            else if codeAt cs at1 % 6 = 2 ∨ codeAt cs at1 % 6 = 3 then (cdOf (codeAt cs at1 % 6 + 1) [(mkC cs r a d (at1 + 1) (left - 1)).1, (mkC cs r a d (mkC cs r a d (at1 + 1) (left - 1)).2.1 (mkC cs r a d (at1 + 1) (left - 1)).2.2).1], (mkC cs r a d (mkC cs r a d (at1 + 1) (left - 1)).2.1 (mkC cs r a d (at1 + 1) (left - 1)).2.2).2)
            else if codeAt cs at1 % 6 = 4 ∨ codeAt cs at1 % 6 = 5 then if d = 0 then (trueC, at1 + 1, left - 1) else (mkEx a (mkG a (codeAt cs at1)) (mkC cs r (mkG a (codeAt cs at1)) (d - 1) (at1 + 1) (left - 1)).1, (mkC cs r (mkG a (codeAt cs at1)) (d - 1) (at1 + 1) (left - 1)).2)
            else (trueC, at1 + 1, left - 1) := by
          simp only [mkC]; rw [if_neg h2]
        have ih1 := IH r (by omega) a d (at1 + 1) (left - 1) (by omega) (by omega) (by omega) (by omega) (by omega) hd
        have bd1 := mkC_bd cs r a d (at1 + 1) (left - 1)
        generalize mkC cs r a d (at1 + 1) (left - 1) = K1 at *
        have ih2 := IH r (by omega) a d K1.2.1 K1.2.2 (by omega) (by omega) (by omega) (by omega) (by omega) hd
        generalize mkC cs r a d K1.2.1 K1.2.2 = K2 at *
        have hm6 : (codeAt cs at1).tmod 6 = codeAt cs at1 % 6 := Int.tmod_eq_emod_of_nonneg c0
        generalize codeAt cs at1 = c at *
        simp only [b2]
        refine sC ?_
        simp
        try (simp [hm6])
        repeat (refine sR ?_; simp [hm6])
        by_cases e1 : c % 6 = 1
        · rw [if_pos e1] at hM
          have be1 : (c % 6 == 1) = true := by simp [e1]
          simp only [be1]
          refine sC ?_
          simp
          try (simp)
          repeat (refine sR ?_; simp)
          refine Stop.of_a (ih1 _ _ k _ _ (by simp only; rw [lb_out kn, upd_same]; simp)) ?_
          rintro v m' ⟨rfl, rfl⟩
          simp [upd_lb_out kn, upd_upd]
          try (simp [lb_out kn, upd_same])
          repeat (refine sR ?_; simp [lb_out kn, upd_same])
          refine sT ?_
          try simp only [AU]
          exact ⟨by simp, (Fin.gen (av := (cdOf 2 [K1.1]).av) (tok' := tok) (nt' := nt) (by simp [resAs, resA, lk]; rfl) (by rw [← upd_lb_out kn, hbox]) (Nat.le_refl _) (Nat.le_refl _) (fun t ht => ⟨ht, .inl rfl⟩) outM (by simp [packA, cdOf, mkEx, idM, conds, ints, AM.edges, slots, tests, Cd.kind, Cd.kids, Cd.m, Cd.g, Cd.sl, Cd.vars, Cd.te, Cd.cells_eq])).mono fun v m hq => by rw [hM]; exact hq⟩
        · rw [if_neg e1] at hM
          have be1 : (c % 6 == 1) = false := by simp [e1]
          simp only [be1]
          refine sC ?_
          simp
          refine AL.seq ?_
          refine AL.mid ⟨tl [(36, B (decide (c % 6 = 2 ∨ c % 6 = 3))), (27, I (c % 6)), (7, I c), (6, .ptr (nb + 6) 0 0), (4, .ptr (nb + 4) 0 0), (0, .ptr k 0 0), (2, I d)],
            lb nb (upd box k (some [[.d (bytes cs), I (at1 + 1), I (left - 1)]])) [(4, [a.cells2]), (6, [[z0i, nilS, nilS, nilS, nilS, nilS, nilS, z0i, nilS]])], tok, nt⟩ ?_ ?_
          · by_cases e2 : c % 6 = 2
            · try (simp [e2])
              repeat (refine sR ?_; simp [e2])
              refine sC ?_
              simp
              refine sE ?_
              exact Weaks.mk' (Nat.le_refl _) (by simp [ToL, lk, e2]; exact to_ptr (by rw [lb_out kn, upd_same]; simp)) (by simp [BoxL, lk]) outM
            · have be2 : (c % 6 == 2) = false := by simp [e2]
              try (simp [be2])
              repeat (refine sR ?_; simp [be2])
              refine sC ?_
              simp
              by_cases e3 : c % 6 = 3
              · try (simp [e3])
                repeat (refine sR ?_; simp [e3])
                refine sE ?_
                exact Weaks.mk' (Nat.le_refl _) (by simp [ToL, lk, e3]; exact to_ptr (by rw [lb_out kn, upd_same]; simp)) (by simp [BoxL, lk]) outM
              · have be3 : (c % 6 == 3) = false := by simp [e3]
                try (simp [be3])
                repeat (refine sR ?_; simp [be3])
                refine sE ?_
                exact Weaks.mk' (Nat.le_refl _) (by simp [ToL, lk, e2, e3]; exact to_ptr (by rw [lb_out kn, upd_same]; simp)) (by simp [BoxL, lk]) outM
          · by_cases e23 : c % 6 = 2 ∨ c % 6 = 3
            · rw [if_pos e23] at hM
              have d23 : decide (c % 6 = 2 ∨ c % 6 = 3) = true := decide_eq_true e23
              simp only [d23]
              refine sC ?_
              simp
              try (simp [lb_out kn, upd_same])
              repeat (refine sR ?_; simp [lb_out kn, upd_same])
              refine Stop.of_a (ih1 _ _ k _ _ (by simp only; rw [lb_out kn, upd_same]; simp)) ?_
              rintro v m' ⟨rfl, rfl⟩
              simp [upd_lb_out kn, upd_upd]
              have hne8 : nb + 8 ≠ k := by omega
              have hk1 : IntKind.i64.wrap (3 + c % 6) = 3 + c % 6 := wrap_in (by omega) (by omega)
              have hk2 : IntKind.i64.wrap (3 + c % 6 - 2) = c % 6 + 1 := by rw [wrap_in (by omega) (by omega)]; omega
              refine sN ?_
              refine AL.region3 follows_Tryz (Nat.le_refl _) (by kernel_rfl) (Side.of (by simp)) [(Operand.tmp 8, Operand.tmp 48)] (by kernel_rfl) ?_
              simp [lb_out kn, upd_lb_out kn, upd_same, hm6, hk1, hk2]
              refine StopW.of_w rfl rfl (by simp only; rw [lb_out kn, upd_same]; simp) (fun box' nb' hb' => (ih2 box' nb' k tok nt (by rw [hb']; simp only; rw [lb_out kn, upd_same])).mono fun v m1 hq => ⟨hq.1, hq.2⟩) ?_
              simp [lb_out kn, upd_lb_out kn, upd_same, upd_upd, NK, hne8]
              refine ⟨by decide, ?_⟩
              refine sT ?_
              try simp only [AU]
              exact ⟨by simp, (Fin.gen (av := (cdOf (c % 6 + 1) [K1.1, K2.1]).av) (tok' := tok) (nt' := nt) (by simp [resAs, resA, lk]; rfl) (by rw [← upd_lb_out kn, hbox]) (Nat.le_refl _) (Nat.le_refl _) (fun t ht => ⟨ht, .inl rfl⟩) outM (by simp [packA, cdOf, mkEx, idM, conds, ints, AM.edges, slots, tests, Cd.kind, Cd.kids, Cd.m, Cd.g, Cd.sl, Cd.vars, Cd.te, Cd.cells_eq])).mono fun v m hq => by rw [hM]; exact hq⟩
            · rw [if_neg e23] at hM
              have d23 : decide (c % 6 = 2 ∨ c % 6 = 3) = false := decide_eq_false e23
              simp only [d23]
              refine sC ?_
              simp
              refine AL.seq ?_
              refine AL.mid ⟨tl [(54, B (decide (c % 6 = 4 ∨ c % 6 = 5))), (27, I (c % 6)), (7, I c), (6, .ptr (nb + 6) 0 0), (4, .ptr (nb + 4) 0 0), (0, .ptr k 0 0), (2, I d)],
                lb nb (upd box k (some [[.d (bytes cs), I (at1 + 1), I (left - 1)]])) [(4, [a.cells2]), (6, [[z0i, nilS, nilS, nilS, nilS, nilS, nilS, z0i, nilS]])], tok, nt⟩ ?_ ?_
              · by_cases e2 : c % 6 = 4
                · try (simp [e2])
                  repeat (refine sR ?_; simp [e2])
                  refine sC ?_
                  simp
                  refine sE ?_
                  exact Weaks.mk' (Nat.le_refl _) (by simp [ToL, lk, e2]; exact to_ptr (by rw [lb_out kn, upd_same]; simp)) (by simp [BoxL, lk]) outM
                · have be2 : (c % 6 == 4) = false := by simp [e2]
                  try (simp [be2])
                  repeat (refine sR ?_; simp [be2])
                  refine sC ?_
                  simp
                  by_cases e3 : c % 6 = 5
                  · try (simp [e3])
                    repeat (refine sR ?_; simp [e3])
                    refine sE ?_
                    exact Weaks.mk' (Nat.le_refl _) (by simp [ToL, lk, e3]; exact to_ptr (by rw [lb_out kn, upd_same]; simp)) (by simp [BoxL, lk]) outM
                  · have be3 : (c % 6 == 5) = false := by simp [e3]
                    try (simp [be3])
                    repeat (refine sR ?_; simp [be3])
                    refine sE ?_
                    exact Weaks.mk' (Nat.le_refl _) (by simp [ToL, lk, e2, e3]; exact to_ptr (by rw [lb_out kn, upd_same]; simp)) (by simp [BoxL, lk]) outM
              · by_cases e45 : c % 6 = 4 ∨ c % 6 = 5
                · rw [if_pos e45] at hM
                  have d45 : decide (c % 6 = 4 ∨ c % 6 = 5) = true := decide_eq_true e45
                  simp only [d45]
                  refine sC ?_
                  simp
                  try (simp)
                  repeat (refine sR ?_; simp)
                  by_cases hd0 : d = 0
                  · rw [if_pos hd0] at hM
                    have bd0 : ((d : Int) == 0) = true := by simp [hd0]
                    simp only [bd0]
                    refine sC ?_
                    simp
                    try (simp)
                    repeat (refine sR ?_; simp)
                    refine Stop.of_d (true33_c _ _) ?_
                    simp
                    refine sT ?_
                    try simp only [AU]
                    exact ⟨by simp, (Fin.gen (av := trueC.av) (tok' := tok) (nt' := nt) (by simp [resAs, resA, lk]; rfl) (by rw [← upd_lb_out kn, hbox]) (Nat.le_refl _) (Nat.le_refl _) (fun t ht => ⟨ht, .inl rfl⟩) outM (by simp [packA, cdOf, mkEx, idM, conds, ints, AM.edges, slots, tests, Cd.kind, Cd.kids, Cd.m, Cd.g, Cd.sl, Cd.vars, Cd.te, Cd.cells_eq])).mono fun v m hq => by rw [hM]; exact hq⟩
                  · rw [if_neg hd0] at hM
                    have bd0 : ((d : Int) == 0) = false := by simp [hd0]
                    simp only [bd0]
                    refine sC ?_
                    simp
                    have hfa : a.Fit := ⟨by omega, by omega⟩
                    have hcp := copied_c a hfa
                    refine sR ?_
                    simp
                    refine Stop.of_d (hcp _ _) ?_
                    simp
                    refine AL.seq ?_
                    have CB := codeB c0 c1
                    have htk0 := (TK.start htok).full.app.full.app.swap
                    have hml := mkG_len a c
                    refine AL.midT (stM1 a cs (mkG a c).nodes c at1 (left - 1) d k nb box) (fun y => TK tok nt y.tok y.nt [y.o1, y.o2]) ?_ ?_
                    · have hn := mkG_nodes a c
                      by_cases z : a.nodes.length = 0
                      · have hn1 : (mkG a c).nodes = a.nodes ++ [c / 32 % 3] := by rw [hn, if_pos (.inl z)]
                        have bz : ((a.nodes.length : Int) == 0) = true := by simp [z]
                        try (simp [bz])
                        repeat (refine sR ?_; simp [bz])
                        refine sC ?_
                        simp
                        try (simp [CB.d32, CB.t32])
                        repeat (refine sR ?_; simp [CB.d32, CB.t32])
                        refine ⟨⟨by omega, htk0.live⟩, ?_⟩
                        try (simp)
                        repeat (refine sR ?_; simp)
                        refine sE ?_
                        refine ⟨⟨0, .tok (nt + 2), .tok (nt + 1), _, _⟩, htk0.app, ?_⟩
                        simp only [stM1, hn1]
                        exact Weaks.mk' htk0.app.le (by simp [ToL, lk]; exact to_ptr (by rw [lb_out kn, upd_same]; simp)) (by simp [BoxL, lk]) outM
                      · have bz : ((a.nodes.length : Int) == 0) = false := by simp [z]
                        by_cases q : c / 8 % 3 = 2
                        · have hn1 : (mkG a c).nodes = a.nodes := by rw [hn, if_neg (by simp [z, q])]
                          try (simp [bz, CB.d8, CB.t8, q])
                          repeat (refine sR ?_; simp [bz, CB.d8, CB.t8, q])
                          refine sC ?_
                          simp
                          refine sE ?_
                          refine ⟨⟨0, .tok nt, .tok (nt + 1), _, _⟩, htk0, ?_⟩
                          simp only [stM1, hn1]
                          exact Weaks.mk' htk0.le (by simp [ToL, lk]; exact to_ptr (by rw [lb_out kn, upd_same]; simp)) (by simp [BoxL, lk]) outM
                        · have bq : (c / 8 % 3 != 2) = true := by simp [q]
                          by_cases l4 : a.nodes.length < 4
                          · have hn1 : (mkG a c).nodes = a.nodes ++ [c / 32 % 3] := by rw [hn, if_pos (.inr ⟨q, l4⟩)]
                            have l4' : (a.nodes.length : Int) < 4 := by omega
                            try (simp [bz, CB.d8, CB.t8, bq, l4, l4'])
                            repeat (refine sR ?_; simp [bz, CB.d8, CB.t8, bq, l4, l4'])
                            refine sC ?_
                            simp
                            try (simp [CB.d32, CB.t32])
                            repeat (refine sR ?_; simp [CB.d32, CB.t32])
                            refine ⟨⟨by omega, htk0.live⟩, ?_⟩
                            try (simp)
                            repeat (refine sR ?_; simp)
                            refine sE ?_
                            refine ⟨⟨0, .tok (nt + 2), .tok (nt + 1), _, _⟩, htk0.app, ?_⟩
                            simp only [stM1, hn1]
                            exact Weaks.mk' htk0.app.le (by simp [ToL, lk]; exact to_ptr (by rw [lb_out kn, upd_same]; simp)) (by simp [BoxL, lk]) outM
                          · have hn1 : (mkG a c).nodes = a.nodes := by rw [hn, if_neg (by simp [z, l4])]
                            have l4' : ¬ (a.nodes.length : Int) < 4 := by omega
                            try (simp [bz, CB.d8, CB.t8, bq, l4, l4'])
                            repeat (refine sR ?_; simp [bz, CB.d8, CB.t8, bq, l4, l4'])
                            refine sC ?_
                            simp
                            refine sE ?_
                            refine ⟨⟨0, .tok nt, .tok (nt + 1), _, _⟩, htk0, ?_⟩
                            simp only [stM1, hn1]
                            exact Weaks.mk' htk0.le (by simp [ToL, lk]; exact to_ptr (by rw [lb_out kn, upd_same]; simp)) (by simp [BoxL, lk]) outM
                    · rintro ⟨_, o1, o2, tok1, nt1⟩ htk1
                      simp only at htk1
                      simp only [stM1]
                      refine AL.seq ?_
                      have ih3 := IH r (by omega) (mkG a c) (d - 1) (at1 + 1) (left - 1) (by omega) (by omega) (by omega) (by omega) (by omega) (by omega)
                      generalize hK3 : mkC cs r (mkG a c) (d - 1) (at1 + 1) (left - 1) = K3 at *
                      have hwd : IntKind.i64.wrap ((d : Int) - 1) = ((d - 1 : Nat) : Int) := by rw [wrap_in (by omega) (by omega)]; omega
                      have hnn : ((mkG a c).nodes.length : Int) ≠ 0 := by omega
                      have hwn : IntKind.i64.wrap (((mkG a c).nodes.length : Int) - 1) = ((mkG a c).nodes.length : Int) - 1 := wrap_in (by omega) (by omega)
                      have hn := mkG_edges a c
                      generalize hG : mkG a c = G at *
                      refine AL.midT (stM2 a cs G c at1 (left - 1) d k nb box) (fun y => (∀ t, tok t = true → y.tok t = true) ∧ nt ≤ y.nt) ?_ ?_
                      · by_cases q0 : c / 8 % 3 = 0
                        · have hn2 : G.edges = a.edges := by rw [hn, if_neg (by simp [q0])]
                          try (simp [CB.d8, CB.t8, q0])
                          repeat (refine sR ?_; simp [CB.d8, CB.t8, q0])
                          refine sC ?_
                          simp
                          refine sE ?_
                          refine ⟨⟨0, .full, .full, _, _⟩, ⟨htk1.old, htk1.le⟩, ?_⟩
                          simp only [stM2, hn2]
                          exact Weaks.mk' htk1.le (by simp [ToL, lk]; exact to_ptr (by rw [lb_out kn, upd_same]; simp)) (by simp [BoxL, lk, AM.edges, hn2]) outM
                        · have bq0 : (c / 8 % 3 != 0) = true := by simp [q0]
                          by_cases l3 : a.edges.length < 3
                          · have hn2 : G.edges = a.edges ++ [⟨c / 64 % 2, c / 16 % G.nodes.length, G.nodes.length - 1⟩] := by rw [hn, if_pos ⟨q0, l3⟩]
                            have l3' : (a.edges.length : Int) < 3 := by omega
                            try (simp [CB.d8, CB.t8, bq0, l3, l3'])
                            repeat (refine sR ?_; simp [CB.d8, CB.t8, bq0, l3, l3'])
                            refine sC ?_
                            simp
                            try (simp [CB.d64, CB.t64, CB.d16, CB.n16, hnn, hwn])
                            repeat (refine sR ?_; simp [CB.d64, CB.t64, CB.d16, CB.n16, hnn, hwn])
                            refine ⟨by intro e; rw [e] at hml; simp at hml, ⟨by omega, htk1.swap.live⟩, ?_⟩
                            try (simp)
                            repeat (refine sR ?_; simp)
                            refine sE ?_
                            refine ⟨⟨0, .full, .full, _, _⟩, ⟨htk1.swap.app.old, htk1.swap.app.le⟩, ?_⟩
                            simp only [stM2, hn2]
                            exact Weaks.mk' htk1.swap.app.le (by simp [ToL, lk]; exact to_ptr (by rw [lb_out kn, upd_same]; simp)) (by simp [BoxL, lk, AM.edges, hn2]) outM
                          · have hn2 : G.edges = a.edges := by rw [hn, if_neg (by simp [l3])]
                            have l3' : ¬ (a.edges.length : Int) < 3 := by omega
                            try (simp [CB.d8, CB.t8, bq0, l3, l3'])
                            repeat (refine sR ?_; simp [CB.d8, CB.t8, bq0, l3, l3'])
                            refine sC ?_
                            simp
                            refine sE ?_
                            refine ⟨⟨0, .full, .full, _, _⟩, ⟨htk1.old, htk1.le⟩, ?_⟩
                            simp only [stM2, hn2]
                            exact Weaks.mk' htk1.le (by simp [ToL, lk]; exact to_ptr (by rw [lb_out kn, upd_same]; simp)) (by simp [BoxL, lk, AM.edges, hn2]) outM
                      · rintro ⟨_, _, _, tok2, nt2⟩ ⟨hold, hle2⟩
                        simp only at hold hle2
                        simp only [stM2]
                        have hof := of_c a hfa
                        have hne9 : nb + 9 ≠ k := by omega
                        refine sN ?_
                        refine AL.region3 follows_Tryz (Nat.le_refl _) (by kernel_rfl) (Side.of (by simp)) [(Operand.tmp 114, Operand.tmp 9), (Operand.tmp 114, Operand.tmp 9), (Operand.tmp 9, Operand.tmp 118)] (by kernel_rfl) ?_
                        simp [lb_out kn, upd_lb_out kn, upd_same, hwd]
                        refine StopW.of_d (hof _ _) ?_
                        simp [lb_out kn, upd_lb_out kn, upd_same, hwd]
                        refine StopW.of_w rfl rfl (by simp only; rw [lb_out kn, upd_same]; simp) (fun box' nb' hb' => (ih3 box' nb' k tok2 nt2 (by rw [hb']; simp only; rw [lb_out kn, upd_same]; simp)).mono fun v m1 hq => ⟨hq.1, hq.2⟩) ?_
                        simp [lb_out kn, upd_lb_out kn, upd_same, upd_upd, NK, hne9]
                        refine sT ?_
                        try simp only [AU]
                        exact ⟨by simp, (Fin.gen (av := (mkEx a G K3.1).av) (tok' := tok) (nt' := nt) (by simp [resAs, resA, lk]; rfl) (by rw [← upd_lb_out kn, hbox]) (Nat.le_refl _) hle2 (fun t ht => ⟨hold t ht, .inr (htok t ht)⟩) outM (by simp [packA, cdOf, mkEx, idM, conds, ints, AM.edges, slots, tests, Cd.kind, Cd.kids, Cd.m, Cd.g, Cd.sl, Cd.vars, Cd.te, Cd.cells_eq])).mono fun v m hq => by rw [hM]; exact hq⟩
                · rw [if_neg e45] at hM
                  have d45 : decide (c % 6 = 4 ∨ c % 6 = 5) = false := decide_eq_false e45
                  simp only [d45]
                  refine sC ?_
                  simp
                  try (simp)
                  repeat (refine sR ?_; simp)
                  refine Stop.of_d (true33_c _ _) ?_
                  simp
                  refine sT ?_
                  try simp only [AU]
                  exact ⟨by simp, (Fin.gen (av := trueC.av) (tok' := tok) (nt' := nt) (by simp [resAs, resA, lk]; rfl) (by rw [← upd_lb_out kn, hbox]) (Nat.le_refl _) (Nat.le_refl _) (fun t ht => ⟨ht, .inl rfl⟩) outM (by simp [packA, cdOf, mkEx, idM, conds, ints, AM.edges, slots, tests, Cd.kind, Cd.kids, Cd.m, Cd.g, Cd.sl, Cd.vars, Cd.te, Cd.cells_eq])).mono fun v m hq => by rw [hM]; exact hq⟩
end Go.AM
namespace Go.AM
open Go Go.Proofs
def up (k : Int) (s : St2) : St2 := (s.1 + k, s.2)
theorem byK_iota {n : Nat} {l : List Int} (h : n ≤ l.length) : byK (iota n) l (iota n).length = l.take n := by
 refine ext_getD (by simp; omega) fun j hj => ?_
 rw [byK_all, iota_length] at hj
 rw [byK_getD (by simpa using hj), iota_getD hj, Int.toNat_natCast]
 simp only [List.getD_eq_getElem?_getD]
 rw [List.getElem?_take_of_lt hj]
theorem thenM_id {a : Gr} {n : Mo} (h1 : a.nodes.length ≤ n.nodes.length) (h2 : a.edges.length ≤ n.edges.length) : thenM (idM a) n = ⟨n.nodes.take a.nodes.length, n.edges.take a.edges.length⟩ := by
 simp only [thenM, idM, byK_iota h1, byK_iota h2]
theorem nodup_iota (n : Nat) : (iota n).Nodup := by
 rw [nodup_getD]
 intro i j hij hj
 rw [iota_length] at hj
 rw [iota_getD (by omega), iota_getD hj]
 omega
theorem mem_iota {x : Int} {n : Nat} (h : x ∈ iota n) : 0 ≤ x ∧ x < n := by
 obtain ⟨i, hi, rfl⟩ := List.mem_map.1 h
 have := List.mem_range.1 hi
 omega
structure Pre (a b : Gr) : Prop where
 va : validG a = 0
 vb : validG b = 0
 n : ∃ t, b.nodes = a.nodes ++ t
 e : ∃ t, b.edges = a.edges ++ t
theorem Pre.emb {a b : Gr} (h : Pre a b) : Emb a b (idM a) := by
 obtain ⟨t, ht⟩ := h.n
 obtain ⟨u, hu⟩ := h.e
 have ea := validG_edges h.va
 refine ⟨validM_of ⟨h.va, h.vb, by simp [idM], by simp [idM], fun x hx => ?_, fun x hx => ?_, fun i hi => ?_, fun i hi => ?_⟩, nodup_iota _, nodup_iota _⟩
 ·have := mem_iota (show x ∈ iota a.nodes.length from hx)
  rw [ht]; simp only [List.length_append]; omega
 ·have := mem_iota (show x ∈ iota a.edges.length from hx)
  rw [hu]; simp only [List.length_append]; omega
 ·simp only [idM]
  rw [iota_getD hi, Int.toNat_natCast, ht, getD_pre hi]
 ·simp only [idM]
  have hx := ea (a.edges.getD i default) (getD_mem hi)
  rw [iota_getD hi, Int.toNat_natCast, hu, getD_pre hi, iota_getD (by omega), iota_getD (by omega)]
  rw [Int.toNat_of_nonneg hx.1, Int.toNat_of_nonneg hx.2.2.1]
theorem Pre.refl {a : Gr} (h : validG a = 0) : Pre a a := ⟨h, h, ⟨[], by simp⟩, ⟨[], by simp⟩⟩
theorem thenM_idR {a b : Gr} {n : Mo} (h : Inn n a b) : thenM (idM a) n = n := by
 rw [thenM_id (by rw [h.ln]; exact Nat.le_refl _) (by rw [h.le]; exact Nat.le_refl _), ← h.ln, ← h.le, List.take_length, List.take_length]
end Go.AM
namespace Go.AM
open Go Go.Proofs
theorem within_of {n m : Int} (h0 : 0 ≤ n) (h1 : n ≤ m) : withinB n m = true := by simp [withinB, h0, h1]
theorem pre_node {a : Gr} (h : validG a = 0) (hl : a.nodes.length < 40) {n : Int} (hn : 0 ≤ n ∧ n ≤ 99) : Pre a ⟨a.nodes ++ [n], a.edges⟩ := by
 obtain ⟨h0, h1, h2⟩ := validG_types h
 refine ⟨h, validG_of ⟨by simp; omega, h0.2⟩ (fun x hx => ?_) (fun e he => ?_), ⟨[n], rfl⟩, ⟨[], by simp⟩⟩
 ·rcases List.mem_append.1 hx with hx | hx
  ·exact h1 x hx
  ·rw [List.mem_singleton] at hx; subst hx; exact within_of hn.1 hn.2
 ·have := h2 e he
  rw [fitsB_iff] at this ⊢
  obtain ⟨t1, t2, t3⟩ := this
  simp only [List.length_append, List.length_cons, List.length_nil]
  exact ⟨t1, by omega, by omega⟩
theorem pre_edge {a : Gr} (h : validG a = 0) (hl : a.edges.length < 80) {e : E} (he : fitsB e a.nodes.length = true) : Pre a ⟨a.nodes, a.edges ++ [e]⟩ := by
 obtain ⟨h0, h1, h2⟩ := validG_types h
 refine ⟨h, validG_of ⟨h0.1, by simp; omega⟩ h1 (fun x hx => ?_), ⟨[], by simp⟩, ⟨[e], rfl⟩⟩
 rcases List.mem_append.1 hx with hx | hx
 ·exact h2 x hx
 ·rw [List.mem_singleton] at hx; subst hx; exact he
theorem Pre.trans {a b c : Gr} (h : Pre a b) (k : Pre b c) : Pre a c := by
 obtain ⟨t, ht⟩ := h.n
 obtain ⟨u, hu⟩ := h.e
 obtain ⟨t', ht'⟩ := k.n
 obtain ⟨u', hu'⟩ := k.e
 exact ⟨h.va, k.vb, ⟨t ++ t', by rw [ht', ht, List.append_assoc]⟩, ⟨u ++ u', by rw [hu', hu, List.append_assoc]⟩⟩
theorem mkG_pre {a : Gr} (hv : validG a = 0) (h1 : a.nodes.length < 40) (h2 : a.edges.length < 80) {c : Int} (c0 : 0 ≤ c) (c1 : c < 256) : Pre a (mkG a c) := by
 have key : ∀ n1 : List Int, Pre a ⟨n1, a.edges⟩ → 0 < n1.length → Pre a ⟨n1, if c / 8 % 3 ≠ 0 ∧ a.edges.length < 3 then a.edges ++ [⟨c / 64 % 2, c / 16 % n1.length, n1.length - 1⟩] else a.edges⟩ := fun n1 hp hn => by
  split
  ·have hpp : 0 < (n1.length : Int) := by omega
   refine hp.trans (pre_edge hp.vb (by simp only; omega) ?_)
   rw [fitsB_iff]
   have e1 := Int.emod_nonneg (c / 16) (show (n1.length : Int) ≠ 0 by omega)
   have e2 := Int.emod_lt_of_pos (c / 16) hpp
   exact ⟨within_of (by simp only; omega) (by simp only; omega), ⟨e1, e2⟩, by simp only; omega⟩
  ·exact hp
 have hpos := (mkG_len a c).1
 refine key (mkG a c).nodes ?_ hpos
 rw [mkG_nodes]
 split
 ·exact pre_node hv h1 (by omega)
 ·exact ⟨hv, hv, ⟨[], by simp⟩, ⟨[], by simp⟩⟩
structure MkOk (a : Gr) (d n : Nat) (c : Cd) : Prop where
 ovr : c.ovr a = 0
 fit : c.Fit
 dep : c.dep ≤ d
 cnt : c.cnt ≤ n
 bare : c.Bare
theorem trueC_ok {a : Gr} {d n : Nat} (hn : 1 ≤ n) : MkOk a d n trueC := ⟨Cd.ovr_of rfl rfl (by simp [trueC, cdOf, Cd.kids]), cdOf_fit (by rw [kidN_eq]; simp) (by simp), by simp [trueC, cdOf, Cd.dep, Cd.depL], by simp [trueC, cdOf, Cd.cnt, Cd.cntL]; exact hn, bare_cdOf (by simp)⟩
theorem mkC_ok (cs : List Int) (hc : U8s cs) : ∀ (r : Nat) (a : Gr) (d at1 : Nat) (left : Int), validG a = 0 → a.nodes.length + r ≤ 40 → a.edges.length + r ≤ 80 → MkOk a d (2 ^ (r + 1) - 1) (mkC cs r a d at1 left).1
 | 0, a, d, at1, left, _, _, _ => trueC_ok (by decide)
 | r + 1, a, d, at1, left, hv, h1, h2 => by
  have p0 : 1 ≤ 2 ^ r := Nat.one_le_two_pow
  have p : 2 ^ (r + 1) = 2 * 2 ^ r := by rw [Nat.pow_succ]; omega
  have e : 2 ^ (r + 1 + 1) = 2 * 2 ^ (r + 1) := by rw [Nat.pow_succ]; omega
  obtain ⟨c0, c1⟩ := code_in hc at1
  simp only [mkC]
  split
  ·exact trueC_ok (by omega)
  ·split
   ·have ih := mkC_ok cs hc r a d (at1 + 1) (left - 1) hv (by omega) (by omega)
    generalize mkC cs r a d (at1 + 1) (left - 1) = K at *
    refine ⟨Cd.ovr_of rfl rfl fun x hx => ?_, cdOf_fit (by rw [kidN_eq]; simp) (by simpa using ih.fit), ?_, ?_, bare_cdOf (by simpa using ih.bare)⟩
    ·have : x = K.1 := by simpa [cdOf, Cd.kids] using hx
     subst this; exact ih.ovr
    ·have := ih.dep; simp [cdOf, Cd.dep, Cd.depL]; exact this
    ·have := ih.cnt; simp [cdOf, Cd.cnt, Cd.cntL]; omega
   ·split
    ·rename_i h23
     have i1 := mkC_ok cs hc r a d (at1 + 1) (left - 1) hv (by omega) (by omega)
     generalize mkC cs r a d (at1 + 1) (left - 1) = K at *
     have i2 := mkC_ok cs hc r a d K.2.1 K.2.2 hv (by omega) (by omega)
     generalize mkC cs r a d K.2.1 K.2.2 = L at *
     have hk : ∀ q : Int, q = 3 ∨ q = 4 → MkOk a d (2 ^ (r + 1 + 1) - 1) (cdOf q [K.1, L.1]) := fun q hq => by
      refine ⟨Cd.ovr_of ?_ ?_ fun x hx => ?_, cdOf_fit (by rw [kidN_eq]; simp) (by simp; exact ⟨i1.fit, i2.fit⟩), ?_, ?_, bare_cdOf (by simp; exact ⟨i1.bare, i2.bare⟩)⟩
      ·rcases hq with rfl | rfl <;> rfl
      ·rcases hq with rfl | rfl <;> rfl
      ·have h3 : x = K.1 ∨ x = L.1 := by simpa [cdOf, Cd.kids] using hx
       have h4 : (cdOf q [K.1, L.1]).inn a = a := if_neg (by rcases hq with rfl | rfl <;> simp [cdOf, Cd.kind])
       rw [h4]
       rcases h3 with rfl | rfl
       ·exact i1.ovr
       ·exact i2.ovr
      ·have := i1.dep; have := i2.dep
       have h5 : ¬ q = 5 := by rcases hq with rfl | rfl <;> decide
       simp only [cdOf, Cd.dep, Cd.depL, if_neg h5]; omega
      ·have := i1.cnt; have := i2.cnt
       have h3 : (cdOf q [K.1, L.1]).cnt = 1 + (K.1.cnt + (L.1.cnt + 0)) := by simp only [cdOf, Cd.cnt, Cd.cntL]
       omega
     exact hk _ (by omega)
    ·split
     ·split
      ·exact trueC_ok (by omega)
      ·rename_i hd
       have hp := mkG_pre hv (by omega) (by omega) c0 c1
       have hl := mkG_len a (codeAt cs at1)
       have ih := mkC_ok cs hc r (mkG a (codeAt cs at1)) (d - 1) (at1 + 1) (left - 1) hp.vb (by omega) (by omega)
       generalize mkC cs r (mkG a (codeAt cs at1)) (d - 1) (at1 + 1) (left - 1) = K at *
       generalize mkG a (codeAt cs at1) = G at *
       have hE := hp.emb
       refine ⟨Cd.ovr_of rfl ?_ fun x hx => ?_, .mk (by rw [kidN_eq]; simp [mkEx, Cd.kids]) ?_ ?_ (by rw [bigN_eq]; simp [mkEx, Cd.sl]) (by rw [bigN_eq]; simp [mkEx, Cd.te]) fun x hx => ?_, ?_, ?_, .mk rfl rfl fun x hx => ?_⟩
       ·show ovrStep a 5 (idM a) G = 0
        rw [ovrStep, if_pos rfl, if_neg (by simp [hE.v]), if_pos hE.inj]
       ·have : x = K.1 := by simpa [mkEx, Cd.kids] using hx
        subst this; exact ih.ovr
       ·exact ⟨by simp [mkEx, Cd.m, idM]; omega, by simp [mkEx, Cd.m, idM]; omega⟩
       ·exact ⟨by simp only [mkEx, Cd.g]; omega, by simp only [mkEx, Cd.g]; omega⟩
       ·have : x = K.1 := by simpa [mkEx, Cd.kids] using hx
        subst this; exact ih.fit
       ·have := ih.dep; simp [mkEx, Cd.dep, Cd.depL]; omega
       ·have := ih.cnt; simp [mkEx, Cd.cnt, Cd.cntL]; omega
       ·have : x = K.1 := by simpa [mkEx, Cd.kids] using hx
        subst this; exact ih.bare
     ·exact trueC_ok (by omega)
def madeR (a : Gr) (cs : List Int) : Cd := let c := (mkC cs 6 a 2 0 8).1; if 8 < c.meas.1 then trueC else c
theorem madeR_ok {a : Gr} {cs : List Int} (hc : U8s cs) (hv : validG a = 0) (h1 : a.nodes.length ≤ 10) (h2 : a.edges.length ≤ 10) : MkOk a 2 8 (madeR a cs) := by
 have h := mkC_ok cs hc 6 a 2 0 8 hv (by omega) (by omega)
 unfold madeR
 simp only
 split
 ·exact trueC_ok (by decide)
 ·rename_i hn
  have := h.cnt
  rw [Cd.meas_cnt _ (by omega)] at hn
  simp only at hn
  exact ⟨h.ovr, h.fit, h.dep, by omega, h.bare⟩
theorem MkOk.valid {a : Gr} {c : Cd} {d n : Nat} (h : MkOk a d n c) (hv : validG a = 0) (hd : d ≤ 3) (hn : n ≤ 2000) : validC a c = 0 := by
 have h1 := h.cnt
 have h2 := h.dep
 rw [validC, if_neg (by simp [hv]), if_neg (by simp [h.ovr]), smallC, Cd.meas_cnt c (by omega)]
 simp only
 rw [if_neg (by omega)]
theorem arr_emb {a b : Gr} {m : Mo} (h : Emb a b m) : arrR a b m = 0 := by
 rw [arrR, if_neg (by simp [h.v]), if_pos h.inj]
theorem sat_emb {a g : Gr} {m : Mo} {c : Cd} (hm : Emb a g m) (hv : validC a c = 0) : satR a c g m = (c.hol g m, 0) := by
 rw [satR, if_neg (by simp [arr_emb hm]), if_neg (by simp [hv])]
end Go.AM
namespace Go.AM
open Go Go.Proofs
theorem made33_c (a : Gr) (cs : List Int) (hc : U8s cs) (hl : cs.length ≤ 1000) (hv : validG a = 0) (h1 : a.nodes.length ≤ 10) (h2 : a.edges.length ≤ 10) (tok : Tks) (nt : Nat) :
  DCall Tryz.prog 27 [a.av, .d (bytes cs)] tok nt (madeR a cs).av tok nt := by
 intro box nb
 have hm := make61_c cs hc hl 7 6 (by decide) a 2 0 8 (by omega) (by omega) (by decide) (by decide) (by decide) (by decide)
 have hok := (mkC_ok cs hc 6 a 2 0 8 hv (by omega) (by omega)).fit.big
 have hR : madeR a cs = if 8 < (mkC cs 6 a 2 0 8).1.meas.1 then trueC else (mkC cs 6 a 2 0 8).1 := rfl
 generalize mkC cs 6 a 2 0 8 = K at *
 have hs := size25_c _ K.1 (Nat.lt_succ_self _) hok
 refine sB Tryz.func27 Tryz.ntmps27 ?_
 intro hbox htok
 simp only at hbox htok
 apply AL.start
 try (simp)
 repeat (refine sR ?_; simp)
 refine Stop.of_a (hm _ _ (nb + 11) _ _ (by simp [lb_at])) ?_
 rintro v m' ⟨rfl, rfl⟩
 simp
 try (simp)
 repeat (refine sR ?_; simp)
 refine Stop.of_d (hs _ _) ?_
 simp
 try (simp)
 repeat (refine sR ?_; simp)
 by_cases h8 : 8 < K.1.meas.1
 ·rw [if_pos h8] at hR
  try (simp [h8])
  repeat (refine sR ?_; simp [h8])
  refine sC ?_
  simp
  try (simp)
  repeat (refine sR ?_; simp)
  refine Stop.of_d (true33_c _ _) ?_
  simp
  try (simp)
  repeat (refine sR ?_; simp)
  refine sT ?_
  try simp only [AU]
  refine ⟨by simp, sF hbox htok (fun _ h => h) (Nat.le_refl _) ?_⟩
  simp [packA, hR]
 ·rw [if_neg h8] at hR
  try (simp [h8])
  repeat (refine sR ?_; simp [h8])
  refine sC ?_
  simp
  try (simp)
  repeat (refine sR ?_; simp)
  refine sT ?_
  try simp only [AU]
  refine ⟨by simp, sF hbox htok (fun _ h => h) (Nat.le_refl _) ?_⟩
  simp [packA, hR]
structure Ch where
 a : Dr
 b : List Int
 g : List Int
 c : List Int
structure Ch.U8 (x : Ch) : Prop where
 a : x.a.U8
 b : U8s x.b
 g : U8s x.g
 c : U8s x.c
abbrev Ch.av (x : Ch) : AV := .agg [.d (.sl 1 (x.a.nodes.map fun n => [u8 n])), .d (.sl 3 (x.a.edges.map fun e => [u8 e.1, u8 e.2.1, u8 e.2.2])), .d (bytes x.b), .d (bytes x.g), .d (bytes x.c)]
def Ch.ok (x : Ch) : Bool := decide (x.a.nodes.length ≤ 1 ∧ x.a.edges.length ≤ 1 ∧ x.c.length ≤ 12 ∧ x.b.length ≤ 10 ∧ x.g.length ≤ 10)
end Go.AM
namespace Go.AM
open Go
def mtI (F G : List Int) (n : Nat) : List Int := (List.range n).map fun (j : Nat) => if indexI G j < 0 then -1 else F.getD (indexI G j).toNat 0
theorem mtI_len (F G : List Int) (n : Nat) : (mtI F G n).length = n := by simp [mtI]
theorem mtI_get {F G : List Int} {n j : Nat} (h : j < n) : (mtI F G n).getD j 0 = if indexI G j < 0 then -1 else F.getD (indexI G j).toNat 0 := by simp [mtI, h]
theorem mtI_at {F G : List Int} {n i : Nat} (hG : G.Nodup) (hr : ∀ x ∈ G, 0 ≤ x ∧ x < n) (h : i < G.length) : (mtI F G n).getD (G.getD i 0).toNat 0 = F.getD i 0 := by
 have h1 := hr _ (getD_mem (d := 0) h)
 rw [mtI_get (by omega)]
 have e : (((G.getD i 0).toNat : Nat) : Int) = G.getD i 0 := by omega
 rw [e]
 rcases indexI_spec G (G.getD i 0) with ⟨_, hn⟩ | ⟨k, h2, h3, h4⟩
 ·exact absurd (getD_mem (d := 0) h) hn
 ·have := getD_inj hG h3 h h4
  subst this
  rw [h2, if_neg (by omega)]
  rfl
theorem mtI_cases {F G : List Int} {n j : Nat} (h : j < n) : ((mtI F G n).getD j 0 = -1 ∧ (j : Int) ∉ G) ∨ ∃ i, i < G.length ∧ G.getD i 0 = j ∧ (mtI F G n).getD j 0 = F.getD i 0 := by
 rw [mtI_get h]
 rcases indexI_spec G j with ⟨h1, hn⟩ | ⟨k, h2, h3, h4⟩
 ·left; rw [h1]; exact ⟨rfl, hn⟩
 ·right; refine ⟨k, h3, h4, ?_⟩; rw [h2, if_neg (by omega)]; rfl
theorem mtI_isM {ok : Nat → Nat → Bool} {F G : List Int} {na n : Nat} (hl : F.length = G.length) (hF : F.Nodup) (hG : G.Nodup) (rF : ∀ x ∈ F, 0 ≤ x ∧ x < na) (rG : ∀ x ∈ G, 0 ≤ x ∧ x < n)
  (hok : ∀ i, i < G.length → ok (G.getD i 0).toNat (F.getD i 0).toNat = true) : isM ok na n (mtI F G n) := by
 refine ⟨mtI_len _ _ _, fun j hj => ?_⟩
 rcases mtI_cases (F := F) (G := G) hj with ⟨h1, _⟩ | ⟨i, h2, h3, h4⟩
 ·exact .inl h1
 ·right
  have r1 := rF _ (getD_mem (d := 0) (show i < F.length by omega))
  refine ⟨(F.getD i 0).toNat, by rw [h4]; omega, by omega, ?_, ?_⟩
  ·have := hok i h2
   rw [h3] at this
   simpa using this
  ·intro hm
   obtain ⟨q, hq, e⟩ := List.getElem_of_mem hm
   rw [List.length_take, mtI_len] at hq
   rw [List.getElem_take] at e
   have e2 : (mtI F G n).getD q 0 = (F.getD i 0) := by
    rw [List.getD_eq_getElem?_getD, List.getElem?_eq_getElem (by rw [mtI_len]; omega), Option.getD_some, e]; omega
   rcases mtI_cases (F := F) (G := G) (show q < n by omega) with ⟨k1, _⟩ | ⟨i', k2, k3, k4⟩
   ·rw [k1] at e2; omega
   ·have := getD_inj hF (show i' < F.length by omega) (by omega) (k4.symm.trans e2)
    subst this
    omega
def pushO (b c : Gr) (f g : Mo) : Ov := glue b c (mtI f.nodes g.nodes c.nodes.length) (mtI f.edges g.edges c.edges.length)
theorem spn_pair {a b c : Gr} {f g : Mo} (hf : Emb a b f) (hg : Emb a c g) : isPair b c (mtI f.nodes g.nodes c.nodes.length, mtI f.edges g.edges c.edges.length) := by
 have v := hf.vm
 have w := hg.vm
 have ln : f.nodes.length = g.nodes.length := by rw [v.ln, w.ln]
 have le : f.edges.length = g.edges.length := by rw [v.le, w.le]
 refine ⟨mtI_isM ln hf.n hg.n v.n w.n fun i hi => ?_, mtI_isM le hf.e hg.e v.e w.e fun i hi => ?_⟩
 ·rw [okN, decide_eq_true_eq, v.nt i (by rw [← w.ln]; exact hi), w.nt i (by rw [← w.ln]; exact hi)]
 ·have hia : i < a.edges.length := by rw [← w.le]; exact hi
  have hx := validG_edges v.va (a.edges.getD i default) (getD_mem hia)
  rw [okE, decide_eq_true_eq, v.et i hia, w.et i hia]
  simp only
  rw [mtI_at hg.n w.n (by rw [w.ln]; omega), mtI_at hg.n w.n (by rw [w.ln]; omega)]
theorem pushO_emb {a b c : Gr} {f g : Mo} (hf : Emb a b f) (hg : Emb a c g) (hs : b.nodes.length + c.nodes.length ≤ 40 ∧ b.edges.length + c.edges.length ≤ 80) :
  validG (pushO b c f g).g = 0 ∧ Emb b (pushO b c f g).g (pushO b c f g).l ∧ Emb c (pushO b c f g).g (pushO b c f g).r := by
 have hp := spn_pair hf hg
 have h1 := glue_law hf.vm.vb hg.vm.vb hs hp
 have h2 := glue_law2 hf.vm.vb hg.vm.vb hs hp
 exact ⟨h1.1, Emb.of h2.1, Emb.of h2.2.1⟩
end Go.AM
