/-
 Parts of the proof, as merged from many texts: a machine over data, what the functions compute, plain laws.
-/
import Derived.Test.YtainalmfffjnjaaGreatDoorPKF9
import Derived.WalkKit
import Derived.ProofKit
import Derived.OpenShut
import Derived.ChangeStays
import Derived.SizedLaws
import Derived.Lib.Builder
import Derived.Shelf.Small.Strs
import Derived.Shelf.Strings.Builder1
import Derived.Shelf.Strings.Builder2
import Derived.Shelf.Strings.BuilderF
import Derived.Shelf.Strings.BuilderK
import Derived.Shelf.LaysM
import Derived.Ground.Names2Prog
import Derived.Test.YtainalmfffjnjaaGreatDoorProg
import Derived.Lib.UnsafeStr
import Derived.Shelf.RegionOpenPlain
set_option linter.unusedSimpArgs false
set_option linter.unusedVariables false
namespace Go.AM
open Go Go.Proofs
def mulLo (s : Sd) (node : Int) (ends : List Int) (out : List Co) : Option (List Co) := if s.low = 1 then (if 6 < ends.length then none else some (out ++ [lstC s node ends])) else some out
def mulHi (s : Sd) (node : Int) (ends : List Int) (out : List Co) : List Co := if 0 ≤ s.high then out ++ greL s node ends else out
def mulOk (t : Ty) (s : Sd) (node : Nat) : Bool := if leafB t (node : Int) = true then tIs t (node : Int) s.near else false
def mulN (t : Ty) (s : Sd) (node : Nat) (out : List Co) : Option (List Co) :=
 if mulOk t s node = true then (match mulLo s node (endsR t s node) out with
  | none => none
  | some o => if 100 < (mulHi s node (endsR t s node) o).length then none else some (mulHi s node (endsR t s node) o))
 else some out
def mulT (t : Ty) (s : Sd) : Nat → Nat → List Co → Option (List Co)
 | _, 0, out => some out
 | i, n + 1, out => match mulN t s i out with | none => none | some o => mulT t s (i + 1) n o
def mulS (t : Ty) : List Sd → List Co → Option (List Co)
 | [], out => some out
 | s :: l, out => match mulT t s 0 t.nodes.length out with | none => none | some o => mulS t l o
def mulR0 (t : Ty) : Option (List Co) := mulS t (sdsR t) []
def nmC (c : Co) (i : Nat) : Co := { c with name := ⟨#[109]⟩ ++ dgB i }
def nmL (l : List Co) (k : Nat) : List Co := (List.range l.length).map fun j => if j < k then nmC (l.getD j ⟨⟨#[]⟩, 0, ⟨[], []⟩, []⟩) j else l.getD j ⟨⟨#[]⟩, 0, ⟨[], []⟩, []⟩
def mulR (t : Ty) : List Co × Int := if bdR t ≠ 0 then ([], bdR t) else match mulR0 t with | none => ([], 3) | some l => (nmL l l.length, 0)
theorem greL_len (s : Sd) (node : Int) (ends : List Int) (hn : ends.length ≤ 100) (h0 : 0 ≤ s.high) (h2 : s.high ≤ 2) : (greL s node ends).length ≤ 6000000 := by
 have h : greL s node ends = grK s node ends (partsN (s.high.toNat + 1)) (partsN (s.high.toNat + 1)).length [] [] 0 := by simp [greL, grK]
 rw [h]
 refine grK_len hn ?_ (fun p hp => ?_) (by simp)
 ·have : s.high.toNat = 0 ∨ s.high.toNat = 1 ∨ s.high.toNat = 2 := by omega
  rcases this with h | h | h <;> rw [h] <;> decide
 ·have := partsN_len _ p hp
  omega
structure MuX where
 i : Nat
 out : List Co
 tk : Nat
 tok : Nat → Bool
 nt : Nat
def mulX1 (t : Ty) (S : List Sd) (nb : Nat) (box : Bxs) (x : MuX) : AState :=
 ⟨tl [(22, I x.i), (21, I S.length), (20, .d (sds S)), (5, .stk x.tk 5 (rCo x.out)), (1, .ptr (nb + 1) 0 0)], lb nb box [(1, [[.d (nts t.nodes), .d (ets t.edges)]])], x.tok, x.nt⟩
def mulX2 (t : Ty) (S : List Sd) (i : Nat) (s : Sd) (nb : Nat) (box : Bxs) (x : MuX) : AState :=
 ⟨tl [(29, I x.i), (28, I t.nodes.length), (7, .ptr (nb + 7) 0 0), (22, I i), (21, I S.length), (20, .d (sds S)), (5, .stk x.tk 5 (rCo x.out)), (1, .ptr (nb + 1) 0 0)], lb nb box [(7, [[I s.k, B s.o, I s.near, I s.far, I s.low, I s.high]]), (1, [[.d (nts t.nodes), .d (ets t.edges)]])], x.tok, x.nt⟩
theorem nmL_len (l : List Co) (k : Nat) : (nmL l k).length = l.length := by simp [nmL]
def mulX3 (out : List Co) (Z : List (List AV)) (nb : Nat) (box : Bxs) (tok : Tks) (nt : Nat) (k : Nat) : AState :=
 ⟨tl [(86, I k), (85, I out.length), (5, .msl (nb + 7) 0 out.length 5)], lb nb box [(7, rowsD (rCo (nmL out k)) ++ Z)], tok, nt⟩
theorem nmL_zero (l : List Co) : nmL l 0 = l := by
 refine List.ext_getElem (by simp [nmL]) fun i h1 h2 => ?_
 simp [nmL, h2]
theorem nmL0 {l : List Co} : rCo l = rCo (nmL l 0) := by rw [nmL_zero]
theorem mul_rt {p q : Nat → Prop} {fz : Option (Nat × Nat × List (List D))} {a b : List (List D)} {m : Nat} {Z : List (List AV)} (h : a = b) (hZ : List.replicate m (List.replicate 5 AV.bot) = Z) : RowsTo p q fz (rowsD a ++ Z) (rowsD b ++ Z) := by
 subst h
 refine rowsTo_same fun r hr x hx => ?_
 rcases List.mem_append.1 hr with hr | hr
 ·obtain ⟨e, _, rfl⟩ := List.mem_map.1 hr
  obtain ⟨d, _, rfl⟩ := List.mem_map.1 hx
  exact .d
 ·rw [← hZ] at hr
  rw [List.eq_of_mem_replicate hr] at hx
  rw [List.eq_of_mem_replicate hx]
  exact .bot
theorem nmL_set {l : List Co} {k : Nat} (h : k < l.length) : (nmL l k).set k (nmC l[k] k) = nmL l (k + 1) := by
 refine List.ext_getElem (by simp [nmL]) fun i a b => ?_
 have hi : i < l.length := by simpa [nmL] using a
 rw [List.getElem_set]
 simp only [nmL, List.getElem_map, List.getElem_range]
 by_cases e : k = i
 ·subst e
  rw [if_pos rfl, if_pos (Nat.lt_succ_self _)]
  simp [hi]
 ·rw [if_neg e]
  by_cases h2 : i < k
  ·rw [if_pos h2, if_pos (show i < k + 1 by omega)]
  ·rw [if_neg h2, if_neg (show ¬ i < k + 1 by omega)]
theorem nmL_row {l : List Co} {k : Nat} (h : k < l.length) (Z : List (List AV)) : (rowsD (rCo (nmL l k)) ++ Z)[k]? = some [Sb l[k].name, I l[k].kind, .d (ints l[k].g.nodes), .d (AM.edges l[k].g.edges), .d (xts l[k].exts)] := by
 have hk : k < (nmL l k).length := by rw [nmL_len]; exact h
 have hg : (nmL l k)[k] = l[k] := by simp [nmL, h]
 rw [List.getElem?_append_left (by simp; exact hk)]
 simp [rowsD, hk, hg]
theorem nmL_put {l : List Co} {k : Nat} (h : k < l.length) (Z : List (List AV)) : (rowsD (rCo (nmL l k)) ++ Z).set k [Sb (⟨#[109]⟩ ++ dgB k), I l[k].kind, .d (ints l[k].g.nodes), .d (AM.edges l[k].g.edges), .d (xts l[k].exts)] = rowsD (rCo (nmL l (k + 1))) ++ Z := by
 have hk : k < (nmL l k).length := by rw [nmL_len]; exact h
 rw [List.set_append_left _ _ (by simp; exact hk), ← nmL_set h]
 simp [rowsD, List.map_set, nmC]
def mulRest (t : Ty) (s : Sd) (l : List Sd) (j n : Nat) (out : List Co) : Option (List Co) := match mulT t s j n out with | none => none | some o => mulS t l o
set_option maxRecDepth 100000 in
theorem multP_c (t : Ty) (ht : t.Fit) (tok : Tks) (nt : Nat) (box : Bxs) (nb : Nat) : ACalls Tryz.prog 45 [t.av] ⟨box, nb, tok, nt⟩ fun v m => m = ⟨box, nb, tok, nt⟩ ∧ (v = .tup [.d (.sl 5 (rCo (mulR t).1)), I (mulR t).2] ∨ (mulR t).1 = [] ∧ v = .tup [.osl 0 [] .full, I (mulR t).2]) := by
 have hb := boundedP_c t ht
 have hs := sidesP_c t ht
 have htn := ht.n
 refine sB Tryz.func45 Tryz.ntmps45 ?_
 intro hbox htok
 simp only at hbox htok
 apply AL.start
 try (simp)
 repeat (refine sR ?_; simp)
 refine Stop.of_d (hb _ _) ?_
 simp
 by_cases e0 : bdR t = 0
 ·have hR : mulR t = match mulR0 t with | none => ([], 3) | some l => (nmL l l.length, 0) := by unfold mulR; rw [if_neg (by simp [e0])]
  have hbd : ∀ s ∈ sdsR t, s.low ≤ 1 ∧ s.high ≤ 2 := by
   unfold bdR at e0
   split at e0
   ·rename_i e; exact absurd e0 e
   ·split at e0
    ·cases e0
    ·split at e0
     ·cases e0
     ·rename_i h
      intro s hs
      have := List.all_eq_true.1 (by simpa using h) s hs
      unfold bdS at this
      split at this
      ·cases this
      ·simp at this; omega
  have hn12 : t.nodes.length ≤ 12 := by
   unfold bdR at e0
   split at e0
   ·rename_i e; exact absurd e0 e
   ·rename_i e
    have e : tyE t = 0 := by simpa using e
    unfold tyE at e
    split at e
    ·cases e
    ·split at e
     ·cases e
     ·omega
  have h0 : mulS t ((sdsR t).drop 0) [] = mulR0 t := rfl
  have hSl : (sdsR t).length ≤ 2000000 := by
   unfold sdsR
   rw [sdL_len (Nat.le_refl _)]
   have := ht.e
   omega
  obtain ⟨R, hRR⟩ : ∃ R, mulR0 t = R := ⟨_, rfl⟩
  rw [hRR] at hR h0
  try (simp [e0])
  repeat (first | (refine sR ?_; simp [e0]) | (refine sC ?_; simp [e0]) | (refine sX ?_; simp only [AU, ↓reduceIte]))
  refine Stop.of_d (hs _ _) ?_
  simp
  generalize sdsR t = S at *
  try (simp)
  repeat (first | (refine sR ?_; simp) | (refine sC ?_; simp) | (refine sX ?_; simp only [AU, ↓reduceIte]))
  refine sN ?_
  refine AL.weak (Weaks.mk (l' := [(22, I 0), (21, I S.length), (20, .d (sds S)), (5, .osl 0 [] .full), (1, .ptr (nb + 1) 0 0)]) (loc' := [(1, [[.d (nts t.nodes), .d (ets t.edges)]])]) (Nat.le_refl _) rfl (by simp [ToL, lk]) (by simp [BoxL, lk])) ?_
  refine AL.trans (Trans.opn (l' := [(22, I 0), (21, I S.length), (20, .d (sds S)), (5, .stk nt 5 []), (1, .ptr (nb + 1) 0 0)]) (loc' := [(1, [[.d (nts t.nodes), .d (ets t.edges)]])]) 5 (by simp [CvL]) (by simp [CvB]; exact cvRs_same (fun _ => .same) _)) ?_
  have htk0 := (TK.start htok).full.app
  refine AL.loopT (mulX1 t S nb box) (fun x => x.i ≤ S.length ∧ mulS t (S.drop x.i) x.out = R ∧ x.out.length ≤ 100 ∧ TK tok nt x.tok x.nt [.tok x.tk]) (fun x => S.length - x.i) ⟨0, [], nt, upd tok nt true, nt + 1⟩ ⟨Nat.zero_le _, h0, by simp, htk0⟩ (Weaks.mk (Nat.le_succ _) rfl (by simp [ToL, lk]) (by simp [BoxL, lk])) ?_
  rintro ⟨i, out, tk, tok', nt'⟩ X ⟨hi, hout, hol, htk⟩ hS
  simp only [mulX1] at hS hi hout hol htk
  subst hS
  have hw := sW (i := i) (by omega)
  by_cases hlt : i < S.length
  ·obtain ⟨hlo, hhi⟩ := hbd _ (List.getElem_mem hlt)
   have hout : mulRest t S[i] (S.drop (i + 1)) 0 t.nodes.length out = R := by
    rw [← hout, List.drop_eq_getElem_cons hlt]
    rfl
   try (simp [hlt])
   repeat (first | (refine sR ?_; simp [hlt]) | (refine sC ?_; simp [hlt]) | (refine sX ?_; simp only [AU, ↓reduceIte]))
   refine sN ?_
   generalize S[i] = s at *
   refine AL.loopT (mulX2 t S i s nb box) (fun x => x.i ≤ t.nodes.length ∧ mulRest t s (S.drop (i + 1)) x.i (t.nodes.length - x.i) x.out = R ∧ x.out.length ≤ 100 ∧ TK tok nt x.tok x.nt [.tok x.tk]) (fun x => t.nodes.length - x.i) ⟨0, out, tk, tok', nt'⟩ ⟨Nat.zero_le _, hout, hol, htk⟩ (Weaks.mk htk.le rfl (by simp [ToL, lk]) (by simp [BoxL, lk])) ?_
   rintro ⟨j, out2, tk2, tok2, nt2⟩ X ⟨hj, hout2, hol2, htk2⟩ hS
   simp only [mulX2] at hS hj hout2 hol2 htk2
   subst hS
   have hwj := sW (i := j) (by omega)
   by_cases hlj : j < t.nodes.length
   ·have hout2 : (match mulN t s j out2 with | none => none | some o => mulRest t s (S.drop (i + 1)) (j + 1) (t.nodes.length - (j + 1)) o) = R := by
     rw [← hout2, mulRest, show t.nodes.length - j = (t.nodes.length - (j + 1)) + 1 by omega, mulT]
     cases mulN t s j out2 <;> rfl
    have hl := leafK_c t (by omega) j
    have hi := isT_c t ht j s.near
    have he := endsP_c t ht s j
    have hel := endsN_len t s j t.nodes.length
    have hel2 : (endsR t s j).length ≤ 13 := by unfold endsR; omega
    have hle := leastP_c s j (endsR t s j) (by omega)
    have skip : mulOk t s j = false → mulRest t s (S.drop (i + 1)) (j + 1) (t.nodes.length - (j + 1)) out2 = R := by
     intro h
     rw [← hout2, mulN, if_neg (by simp [h])]
    unfold mulOk at skip
    try (simp [hlj])
    repeat (first | (refine sR ?_; simp [hlj]) | (refine sC ?_; simp [hlj]) | (refine sX ?_; simp only [AU, ↓reduceIte]))
    refine Stop.of_d (hl _ _) ?_
    simp
    cases e1 : leafB t (j : Int)
    ·have skip := skip (by simp [e1])
     try (simp [hwj])
     repeat (first | (refine sR ?_; simp [hwj]) | (refine sC ?_; simp [hwj]) | (refine sX ?_; simp only [AU, ↓reduceIte]))
     refine sE ?_
     exact ⟨⟨j + 1, out2, tk2, tok2, nt2⟩, ⟨hlj, skip, hol2, htk2⟩, by simp only; omega, Weaks.mk htk2.le rfl (by simp [ToL, lk]) (by simp [BoxL, lk])⟩
    ·try (simp)
     repeat (first | (refine sR ?_; simp) | (refine sC ?_; simp) | (refine sX ?_; simp only [AU, ↓reduceIte]))
     refine Stop.of_d (hi _ _) ?_
     simp
     cases e2 : tIs t (j : Int) s.near
     ·have skip := skip (by simp [e1, e2])
      try (simp [hwj])
      repeat (first | (refine sR ?_; simp [hwj]) | (refine sC ?_; simp [hwj]) | (refine sX ?_; simp only [AU, ↓reduceIte]))
      refine sE ?_
      exact ⟨⟨j + 1, out2, tk2, tok2, nt2⟩, ⟨hlj, skip, hol2, htk2⟩, by simp only; omega, Weaks.mk htk2.le rfl (by simp [ToL, lk]) (by simp [BoxL, lk])⟩
     ·have hgo : mulOk t s j = true := by unfold mulOk; rw [if_pos e1, e2]
      rw [mulN, if_pos hgo] at hout2
      clear skip
      try (simp)
      repeat (first | (refine sR ?_; simp) | (refine sC ?_; simp) | (refine sX ?_; simp only [AU, ↓reduceIte]))
      refine Stop.of_d (he _ _) ?_
      simp
      generalize endsR t s j = ends at *
      by_cases h1 : s.low = 1
      ·have b1 : (s.low == 1) = true := by simp [h1]
       have hml : mulLo s j ends out2 = if 6 < ends.length then none else some (out2 ++ [lstC s j ends]) := by unfold mulLo; rw [if_pos h1]
       rw [hml] at hout2
       have hex : (lstC s j ends).exts.length = ends.length := by simp [lstC]
       generalize lstC s j ends = lc at *
       try (simp [b1])
       repeat (first | (refine sR ?_; simp [b1]) | (refine sC ?_; simp [b1]) | (refine sX ?_; simp only [AU, ↓reduceIte]))
       refine Stop.of_d (hle _ _) ?_
       simp
       by_cases h6 : 6 < ends.length
       ·rw [if_pos h6] at hout2
        have b6 : (6 : Int) < (ends.length : Int) := by omega
        try (simp [hex, b6])
        repeat (first | (refine sR ?_; simp [hex, b6]) | (refine sC ?_; simp [hex, b6]) | (refine sX ?_; simp only [AU, ↓reduceIte]))
        refine sN ?_
        refine AL.ret ?_
        try simp only [AU]
        exact ⟨by simp, (Fin.data (av := .tup [.osl 0 [] .full, I 3]) (by simp [resAs, resA]; rfl) hbox rfl htok htk2.old htk2.le (by simp [packA])).mono fun v m hq => ⟨hq.2, .inr (by rw [hR, ← hout2]; exact ⟨rfl, hq.1⟩)⟩⟩
       ·rw [if_neg h6] at hout2
        simp only at hout2
        have b6 : ¬ (6 : Int) < (ends.length : Int) := by omega
        try (simp [hex, b6])
        repeat (first | (refine sR ?_; simp [hex, b6]) | (refine sC ?_; simp [hex, b6]) | (refine sX ?_; simp only [AU, ↓reduceIte]))
        refine ⟨⟨by omega, htk2.live⟩, ?_⟩
        have htk3 := htk2.app
        by_cases hh : 0 ≤ s.high
        ·have hgr := greatestP_c s j ends (by omega) hh hhi
         have hmh : mulHi s j ends ((out2 ++ [lc])) = (out2 ++ [lc]) ++ greL s j ends := by unfold mulHi; rw [if_pos hh]
         have hgl := greL_len s j ends (by omega) hh hhi
         rw [hmh] at hout2
         generalize greL s j ends = gl at *
         try (simp [hh])
         repeat (first | (refine sR ?_; simp [hh]) | (refine sC ?_; simp [hh]) | (refine sX ?_; simp only [AU, ↓reduceIte]))
         refine Stop.of_d (hgr _ _) ?_
         simp
         try (simp)
         repeat (first | (refine sR ?_; simp) | (refine sC ?_; simp) | (refine sX ?_; simp only [AU, ↓reduceIte]))
         refine ⟨⟨by omega, htk3.live⟩, ?_⟩
         have htk9 := htk3.app
         obtain ⟨O, hO⟩ : ∃ O, (out2 ++ [lc]) ++ gl = O := ⟨_, rfl⟩
         rw [hO] at hout2
         refine AL.weak (Weaks.mk (l' := [(5, .stk (nt2 + 1) 5 (rCo O)), (29, I j), (28, I t.nodes.length), (7, .ptr (nb + 7) 0 0), (22, I i), (21, I S.length), (20, .d (sds S)), (1, .ptr (nb + 1) 0 0)]) (loc' := [(7, [[I s.k, B s.o, I s.near, I s.far, I s.low, I s.high]]), (1, [[.d (nts t.nodes), .d (ets t.edges)]])]) htk9.le rfl (by simp [ToL, lk, ← hO]) (by simp [BoxL, lk])) ?_
         by_cases hb : 100 < O.length
         ·have bb : (100 : Int) < (O.length : Int) := by omega
          rw [if_pos hb] at hout2
          try (simp [bb])
          repeat (first | (refine sR ?_; simp [bb]) | (refine sC ?_; simp [bb]) | (refine sX ?_; simp only [AU, ↓reduceIte]))
          refine sN ?_
          refine AL.ret ?_
          try simp only [AU]
          exact ⟨by simp, (Fin.data (av := .tup [.osl 0 [] .full, I 3]) (by simp [resAs, resA]; rfl) hbox rfl htok htk9.old htk9.le (by simp [packA])).mono fun v m hq => ⟨hq.2, .inr (by rw [hR, ← hout2]; exact ⟨rfl, hq.1⟩)⟩⟩
         ·have bb : ¬ (100 : Int) < (O.length : Int) := by omega
          rw [if_neg hb] at hout2
          try (simp [bb, hwj])
          repeat (first | (refine sR ?_; simp [bb, hwj]) | (refine sC ?_; simp [bb, hwj]) | (refine sX ?_; simp only [AU, ↓reduceIte]))
          refine sE ?_
          exact ⟨⟨j + 1, O, (nt2 + 1), _, _⟩, ⟨hlj, hout2, by simp only; omega, htk9⟩, by simp only; omega, Weaks.mk htk9.le rfl (by simp [ToL, lk]) (by simp [BoxL, lk])⟩
        ·have hmh : mulHi s j ends ((out2 ++ [lc])) = (out2 ++ [lc]) := by unfold mulHi; rw [if_neg hh]
         rw [hmh] at hout2
         refine sR ?_
         simp [hh]
         refine sC ?_
         simp
         refine sN ?_
         obtain ⟨O, hO⟩ : ∃ O, (out2 ++ [lc]) = O := ⟨_, rfl⟩
         rw [hO] at hout2
         refine AL.weak (Weaks.mk (l' := [(5, .stk nt2 5 (rCo O)), (29, I j), (28, I t.nodes.length), (7, .ptr (nb + 7) 0 0), (22, I i), (21, I S.length), (20, .d (sds S)), (1, .ptr (nb + 1) 0 0)]) (loc' := [(7, [[I s.k, B s.o, I s.near, I s.far, I s.low, I s.high]]), (1, [[.d (nts t.nodes), .d (ets t.edges)]])]) htk3.le rfl (by simp [ToL, lk, ← hO]) (by simp [BoxL, lk])) ?_
         by_cases hb : 100 < O.length
         ·have bb : (100 : Int) < (O.length : Int) := by omega
          rw [if_pos hb] at hout2
          try (simp [bb])
          repeat (first | (refine sR ?_; simp [bb]) | (refine sC ?_; simp [bb]) | (refine sX ?_; simp only [AU, ↓reduceIte]))
          refine sN ?_
          refine AL.ret ?_
          try simp only [AU]
          exact ⟨by simp, (Fin.data (av := .tup [.osl 0 [] .full, I 3]) (by simp [resAs, resA]; rfl) hbox rfl htok htk3.old htk3.le (by simp [packA])).mono fun v m hq => ⟨hq.2, .inr (by rw [hR, ← hout2]; exact ⟨rfl, hq.1⟩)⟩⟩
         ·have bb : ¬ (100 : Int) < (O.length : Int) := by omega
          rw [if_neg hb] at hout2
          try (simp [bb, hwj])
          repeat (first | (refine sR ?_; simp [bb, hwj]) | (refine sC ?_; simp [bb, hwj]) | (refine sX ?_; simp only [AU, ↓reduceIte]))
          refine sE ?_
          exact ⟨⟨j + 1, O, nt2, _, _⟩, ⟨hlj, hout2, by simp only; omega, htk3⟩, by simp only; omega, Weaks.mk htk3.le rfl (by simp [ToL, lk]) (by simp [BoxL, lk])⟩
      ·have b1 : (s.low == 1) = false := by simp [h1]
       have hml : mulLo s j ends out2 = some out2 := by unfold mulLo; rw [if_neg h1]
       rw [hml] at hout2
       simp only at hout2
       refine sR ?_
       simp [b1]
       refine sC ?_
       simp
       refine sN ?_
       by_cases hh : 0 ≤ s.high
       ·have hgr := greatestP_c s j ends (by omega) hh hhi
        have hmh : mulHi s j ends (out2) = out2 ++ greL s j ends := by unfold mulHi; rw [if_pos hh]
        have hgl := greL_len s j ends (by omega) hh hhi
        rw [hmh] at hout2
        generalize greL s j ends = gl at *
        try (simp [hh])
        repeat (first | (refine sR ?_; simp [hh]) | (refine sC ?_; simp [hh]) | (refine sX ?_; simp only [AU, ↓reduceIte]))
        refine Stop.of_d (hgr _ _) ?_
        simp
        try (simp)
        repeat (first | (refine sR ?_; simp) | (refine sC ?_; simp) | (refine sX ?_; simp only [AU, ↓reduceIte]))
        refine ⟨⟨by omega, htk2.live⟩, ?_⟩
        have htk9 := htk2.app
        obtain ⟨O, hO⟩ : ∃ O, out2 ++ gl = O := ⟨_, rfl⟩
        rw [hO] at hout2
        refine AL.weak (Weaks.mk (l' := [(5, .stk nt2 5 (rCo O)), (29, I j), (28, I t.nodes.length), (7, .ptr (nb + 7) 0 0), (22, I i), (21, I S.length), (20, .d (sds S)), (1, .ptr (nb + 1) 0 0)]) (loc' := [(7, [[I s.k, B s.o, I s.near, I s.far, I s.low, I s.high]]), (1, [[.d (nts t.nodes), .d (ets t.edges)]])]) htk9.le rfl (by simp [ToL, lk, ← hO]) (by simp [BoxL, lk])) ?_
        by_cases hb : 100 < O.length
        ·have bb : (100 : Int) < (O.length : Int) := by omega
         rw [if_pos hb] at hout2
         try (simp [bb])
         repeat (first | (refine sR ?_; simp [bb]) | (refine sC ?_; simp [bb]) | (refine sX ?_; simp only [AU, ↓reduceIte]))
         refine sN ?_
         refine AL.ret ?_
         try simp only [AU]
         exact ⟨by simp, (Fin.data (av := .tup [.osl 0 [] .full, I 3]) (by simp [resAs, resA]; rfl) hbox rfl htok htk9.old htk9.le (by simp [packA])).mono fun v m hq => ⟨hq.2, .inr (by rw [hR, ← hout2]; exact ⟨rfl, hq.1⟩)⟩⟩
        ·have bb : ¬ (100 : Int) < (O.length : Int) := by omega
         rw [if_neg hb] at hout2
         try (simp [bb, hwj])
         repeat (first | (refine sR ?_; simp [bb, hwj]) | (refine sC ?_; simp [bb, hwj]) | (refine sX ?_; simp only [AU, ↓reduceIte]))
         refine sE ?_
         exact ⟨⟨j + 1, O, nt2, _, _⟩, ⟨hlj, hout2, by simp only; omega, htk9⟩, by simp only; omega, Weaks.mk htk9.le rfl (by simp [ToL, lk]) (by simp [BoxL, lk])⟩
       ·have hmh : mulHi s j ends (out2) = out2 := by unfold mulHi; rw [if_neg hh]
        rw [hmh] at hout2
        refine sR ?_
        simp [hh]
        refine sC ?_
        simp
        refine sN ?_
        obtain ⟨O, hO⟩ : ∃ O, out2 = O := ⟨_, rfl⟩
        rw [hO] at hout2
        refine AL.weak (Weaks.mk (l' := [(5, .stk tk2 5 (rCo O)), (29, I j), (28, I t.nodes.length), (7, .ptr (nb + 7) 0 0), (22, I i), (21, I S.length), (20, .d (sds S)), (1, .ptr (nb + 1) 0 0)]) (loc' := [(7, [[I s.k, B s.o, I s.near, I s.far, I s.low, I s.high]]), (1, [[.d (nts t.nodes), .d (ets t.edges)]])]) htk2.le rfl (by simp [ToL, lk, ← hO]) (by simp [BoxL, lk])) ?_
        by_cases hb : 100 < O.length
        ·have bb : (100 : Int) < (O.length : Int) := by omega
         rw [if_pos hb] at hout2
         try (simp [bb])
         repeat (first | (refine sR ?_; simp [bb]) | (refine sC ?_; simp [bb]) | (refine sX ?_; simp only [AU, ↓reduceIte]))
         refine sN ?_
         refine AL.ret ?_
         try simp only [AU]
         exact ⟨by simp, (Fin.data (av := .tup [.osl 0 [] .full, I 3]) (by simp [resAs, resA]; rfl) hbox rfl htok htk2.old htk2.le (by simp [packA])).mono fun v m hq => ⟨hq.2, .inr (by rw [hR, ← hout2]; exact ⟨rfl, hq.1⟩)⟩⟩
        ·have bb : ¬ (100 : Int) < (O.length : Int) := by omega
         rw [if_neg hb] at hout2
         try (simp [bb, hwj])
         repeat (first | (refine sR ?_; simp [bb, hwj]) | (refine sC ?_; simp [bb, hwj]) | (refine sX ?_; simp only [AU, ↓reduceIte]))
         refine sE ?_
         exact ⟨⟨j + 1, O, tk2, _, _⟩, ⟨hlj, hout2, by simp only; omega, htk2⟩, by simp only; omega, Weaks.mk htk2.le rfl (by simp [ToL, lk]) (by simp [BoxL, lk])⟩
   ·have : j = t.nodes.length := by omega
    subst this
    have hout3 : mulS t (S.drop (i + 1)) out2 = R := by
     rw [← hout2, mulRest, Nat.sub_self, mulT]
    try (simp [hw])
    repeat (first | (refine sR ?_; simp [hw]) | (refine sC ?_; simp [hw]) | (refine sX ?_; simp only [AU, ↓reduceIte]))
    refine sE ?_
    exact ⟨⟨i + 1, out2, tk2, tok2, nt2⟩, ⟨hlt, hout3, hol2, htk2⟩, by simp only; omega, Weaks.mk htk2.le rfl (by simp [ToL, lk]) (by simp [BoxL, lk])⟩
  ·have : i = S.length := by omega
   subst this
   have hR2 : mulR t = (nmL out out.length, 0) := by
    rw [hR, ← hout, List.drop_length]
    rfl
   try (simp)
   repeat (first | (refine sR ?_; simp) | (refine sC ?_; simp) | (refine sX ?_; simp only [AU, ↓reduceIte]))
   by_cases hne : out = []
   ·subst hne
    refine AL.stkD tk htk.live ?_
    simp only [List.map_cons, List.map_nil, AV.sdT, ↓reduceIte]
    refine sN ?_
    refine AL.loopT (fun _ : Nat => ⟨tl [(86, I 0), (85, I 0), (5, .d (.sl 5 []))], lb nb box [], upd tok' tk false, nt'⟩) (fun _ => True) (fun k => k) 0 trivial (Weaks.mk htk.le rfl (by simp [ToL, lk]) (by simp [BoxL, lk])) ?_
    rintro k X _ hS
    subst hS
    try (simp)
    repeat (first | (refine sR ?_; simp) | (refine sC ?_; simp) | (refine sX ?_; simp only [AU, ↓reduceIte]))
    refine sT ?_
    try simp only [AU]
    exact ⟨by simp, (Fin.data (av := .tup [.d (.sl 5 []), I 0]) (by simp [resAs, resA]; rfl) hbox rfl htok htk.spend.old htk.le (by simp [packA])).mono fun v m hq => ⟨hq.2, .inl (by rw [hR2, hq.1]; rfl)⟩⟩
   ·refine AL.thawS (l' := [(86, I 0), (85, I out.length), (84, .msl (nb + 7) 0 out.length 5), (23, .bot), (22, .bot), (21, .bot), (20, .bot), (5, .msl (nb + 7) 0 out.length 5), (1, .bot)]) (loc' := [(1, [[.d (nts t.nodes), .d (ets t.edges)]])]) tk 7 5 (rCo out) 5 rfl (show (7 : Nat) < 98 by decide) rfl htk.live (by simpa using hne) rfl ?_ ?_ ?_
    ·simp [CvL]
    ·exact ⟨rfl, cvRs_same (fun _ => .same) _, trivial⟩
    intro m
    generalize hRm : List.replicate m (List.replicate 5 AV.bot) = Z
    have hbt := htk.spend
    refine sN ?_
    refine AL.loopT (mulX3 out Z nb box (upd tok' tk false) nt') (fun k => k ≤ out.length) (fun k => out.length - k) 0 (Nat.zero_le _) (Weaks.mk htk.le rfl (by simp [ToL, lk, lb_at]) (by simp only [BoxL, lk_cons, ↓reduceIte, and_true]; exact ⟨_, rfl, mul_rt nmL0 hRm⟩)) ?_
    rintro k X hk hS
    simp only [mulX3] at hS
    subst hS
    have hwk := sW (i := k) (by omega)
    by_cases hlk : k < out.length
    ·have hit := itoaD_c k (by omega)
     have hsz := dgB_size (i := k) (by omega)
     have hget := nmL_row hlk Z
     have hput := nmL_put hlk Z
     try (simp [hlk])
     repeat (first | (refine sR ?_; simp [hlk]) | (refine sC ?_; simp [hlk]) | (refine sX ?_; simp only [AU, ↓reduceIte]))
     refine Stop.of_d (hit _ _) ?_
     simp [hget, hput]
     refine ⟨by have h1 : (⟨#[109]⟩ : ByteArray).size = 1 := rfl; omega, ?_⟩
     try refine ⟨hlk, ?_⟩
     try (simp [hget, hput, hwk])
     repeat (first | (refine sR ?_; simp [hget, hput, hwk]) | (refine sC ?_; simp [hget, hput, hwk]) | (refine sX ?_; simp only [AU, ↓reduceIte]))
     refine sE ?_
     exact ⟨k + 1, hlk, by omega, Weaks.mk htk.le rfl (by simp [ToL, lk, lb_at]) (by simp only [BoxL, lk_cons, ↓reduceIte, and_true]; exact ⟨_, rfl, mul_rt rfl hRm⟩)⟩
    ·have : k = out.length := by omega
     subst this
     have hll := nmL_len out out.length
     generalize nmL out out.length = F at *
     try (simp)
     repeat (first | (refine sR ?_; simp) | (refine sC ?_; simp) | (refine sX ?_; simp only [AU, ↓reduceIte]))
     refine AL.weak (Weaks.mk (l' := [(3, I 0), (2, .msl (nb + 7) 0 out.length 5)]) (loc' := [(7, rowsD (rCo F) ++ Z)]) htk.le rfl (by simp [ToL, lk, lb_at]) (by simp only [BoxL, lk_cons, ↓reduceIte, and_true]; exact ⟨_, rfl, mul_rt rfl hRm⟩)) ?_
     refine AL.trans (Trans.sealD (l' := [(3, I 0), (2, .d (.sl 5 (rCo F)))]) (loc := []) (loc' := []) 7 5 (rCo F) Z 2 rfl (fun e he => by obtain ⟨c, _, rfl⟩ := List.mem_map.1 he; rfl) (by simp [tl_cons, hll]) rfl ⟨rfl, .same (by simp), rfl, by have := @SpTo.msl (nb + 7) 5 (rCo F); rw [List.length_map, hll] at this; exact this, trivial⟩ trivial) ?_
     refine sN ?_
     refine AL.ret ?_
     try simp only [AU]
     exact ⟨by simp, (Fin.data (av := .tup [.d (.sl 5 (rCo F)), I 0]) (by simp [resAs, resA]; rfl) hbox rfl htok hbt.old htk.le (by simp [packA])).mono fun v m hq => ⟨hq.2, .inl (by rw [hR2, hq.1])⟩⟩
 ·have hR : mulR t = ([], bdR t) := by unfold mulR; rw [if_pos e0]
  have b : (bdR t != 0) = true := by simp [e0]
  try (simp [b])
  repeat (first | (refine sR ?_; simp [b]) | (refine sC ?_; simp [b]) | (refine sX ?_; simp only [AU, ↓reduceIte]))
  refine sN ?_
  refine AL.ret ?_
  try simp only [AU]
  exact ⟨by simp, (Fin.data (av := .tup [.osl 0 [] .full, I (bdR t)]) (by simp [resAs, resA]; rfl) hbox rfl htok (fun _ h => h) (Nat.le_refl _) (by simp [packA])).mono fun v m hq => ⟨hq.2, .inr ⟨by rw [hR], by rw [hR, hq.1]⟩⟩⟩
end Go.AM
namespace Go.AM
open Go Go.Proofs
def oneC : Co := ⟨⟨#[111, 110, 101]⟩, 1, ⟨[3, 3, 1], [⟨0, 0, 2⟩, ⟨0, 1, 2⟩]⟩, []⟩
def oneG : Gr := ⟨[3, 1, 1], [⟨0, 0, 1⟩, ⟨0, 0, 2⟩]⟩
def oneH : Gr := ⟨[3, 1, 1, 3], [⟨0, 0, 1⟩, ⟨0, 0, 2⟩, ⟨0, 3, 1⟩]⟩
theorem aw42a : (vioS exT oneC oneG fun _ => true).2 = 0 ∧ (vioS exT oneC oneG fun _ => true).1.length = 0 := by decide +kernel
theorem aw42b : (vioS exT oneC oneH fun _ => true).2 = 0 ∧ (vioS exT oneC oneH fun _ => true).1.length = 2 := by decide +kernel
theorem aw42c : (mulR exT).2 = 0 ∧ (mulR exT).1.length = 6 := by decide +kernel
theorem aw42d : cnE exT oneC = 0 := by decide +kernel
theorem oneC_fit : oneC.Fit := ⟨by decide, ⟨by decide, by decide⟩, by decide, by simp [oneC]⟩
set_option maxRecDepth 100000 in
theorem awake42_c (tok : Tks) (nt : Nat) : DCall Tryz.prog 12 [] tok nt (B true) tok nt := by
 intro box nb
 have hE := example04_c
 have h1 := violationsK_c exT exT_fit oneC oneC_fit oneG ⟨by decide, by decide⟩ (fun _ => true) (fun h => absurd rfl h)
 have h2 := violationsK_c exT exT_fit oneC oneC_fit oneH ⟨by decide, by decide⟩ (fun _ => true) (fun h => absurd rfl h)
 have h3 := multP_c exT exT_fit
 have h4 := validK_c exT exT_fit oneC oneC_fit
 obtain ⟨a1, a2⟩ := aw42a
 obtain ⟨b1, b2⟩ := aw42b
 obtain ⟨c1, c2⟩ := aw42c
 rw [aw42d] at h4
 generalize vioS exT oneC oneG (fun _ => true) = L at *
 generalize vioS exT oneC oneH (fun _ => true) = M at *
 generalize mulR exT = U at *
 refine sB Tryz.func12 Tryz.ntmps12 ?_
 intro hbox htok
 simp only at hbox htok
 apply AL.start
 try (simp)
 repeat (refine sR ?_; simp)
 refine Stop.of_d (hE _ _) ?_
 simp
 try (simp)
 repeat (first | (refine sR ?_; simp) | (refine sC ?_; simp) | (refine sX ?_; simp only [AU, ↓reduceIte]))
 try refine ⟨rfl, ?_⟩
 try (simp)
 repeat (first | (refine sR ?_; simp) | (refine sC ?_; simp) | (refine sX ?_; simp only [AU, ↓reduceIte]))
 try refine ⟨rfl, ?_⟩
 try (simp)
 repeat (first | (refine sR ?_; simp) | (refine sC ?_; simp) | (refine sX ?_; simp only [AU, ↓reduceIte]))
 try refine ⟨rfl, ?_⟩
 try (simp)
 repeat (first | (refine sR ?_; simp) | (refine sC ?_; simp) | (refine sX ?_; simp only [AU, ↓reduceIte]))
 try refine ⟨rfl, ?_⟩
 try (simp)
 repeat (first | (refine sR ?_; simp) | (refine sC ?_; simp) | (refine sX ?_; simp only [AU, ↓reduceIte]))
 try refine ⟨rfl, ?_⟩
 try (simp)
 repeat (first | (refine sR ?_; simp) | (refine sC ?_; simp) | (refine sX ?_; simp only [AU, ↓reduceIte]))
 try refine ⟨rfl, ?_⟩
 try (simp)
 repeat (first | (refine sR ?_; simp) | (refine sC ?_; simp) | (refine sX ?_; simp only [AU, ↓reduceIte]))
 refine Stop.sub (args' := [exT.av, oneC.av, oneG.av]) ⟨Sub.refl _, Sub.agg ⟨Sub.refl _, Sub.refl _, Sub.data _ _ _, Sub.data _ _ _, Sub.nil _ _ _, trivial⟩, Sub.agg ⟨Sub.data _ _ _, Sub.data _ _ _, trivial⟩, trivial⟩ ?_
 refine Stop.of_d (h1 _ _) ?_
 try (simp)
 repeat (first | (refine sR ?_; simp) | (refine sC ?_; simp) | (refine sX ?_; simp only [AU, ↓reduceIte]))
 refine Stop.sub (args' := [exT.av, oneC.av, oneH.av]) ⟨Sub.refl _, Sub.agg ⟨Sub.refl _, Sub.refl _, Sub.data _ _ _, Sub.data _ _ _, Sub.nil _ _ _, trivial⟩, Sub.agg ⟨Sub.data _ _ _, Sub.data _ _ _, trivial⟩, trivial⟩ ?_
 refine Stop.of_d (h2 _ _) ?_
 try (simp)
 repeat (first | (refine sR ?_; simp) | (refine sC ?_; simp) | (refine sX ?_; simp only [AU, ↓reduceIte]))
 refine Stop.of_a (h3 _ _ _ _) ?_
 rintro v m' ⟨rfl, rfl | ⟨e, rfl⟩⟩
 ·try (simp [a1, a2, b1, b2, c1, c2])
  repeat (first | (refine sR ?_; simp [a1, a2, b1, b2, c1, c2]) | (refine sC ?_; simp [a1, a2, b1, b2, c1, c2]) | (refine sX ?_; simp only [AU, ↓reduceIte]))
  refine Stop.sub (args' := [exT.av, oneC.av]) ⟨Sub.refl _, Sub.agg ⟨Sub.refl _, Sub.refl _, Sub.data _ _ _, Sub.data _ _ _, Sub.nil _ _ _, trivial⟩, trivial⟩ ?_
  refine Stop.of_d (h4 _ _) ?_
  try (simp)
  repeat (first | (refine sR ?_; simp) | (refine sC ?_; simp) | (refine sX ?_; simp only [AU, ↓reduceIte]))
  refine sT ?_
  try simp only [AU]
  refine ⟨by simp, sF hbox htok (fun t ht => by have := htok t ht; rw [upd_other _ _ (by omega), upd_other _ _ (by omega)]; exact ht) (by omega) ?_⟩
  simp [packA, packA]
 ·rw [e] at c2
  cases c2
end Go.AM
namespace Go.AM
open Go Go.Proofs
theorem fewM_fit2 {m : Mo} (h : fewM m 140 = true) : m.Fit := by
 simp [fewM] at h
 exact ⟨by omega, by omega⟩
end Go.AM
namespace Go.AM
open Go Go.ChangeShapes
variable {P : Program}
def Rd (w : World) (cs : List Value) (ds : List D) : Prop := cs.length = ds.length ∧ ∀ i (h1 : i < cs.length) (h2 : i < ds.length), RVd w.cell? (fun _ => True) ds[i] cs[i]
theorem Rd.append {w : World} {cs cs' : List Value} {ds ds' : List D} (h : Rd w cs ds) (k : Rd w cs' ds') : Rd w (cs ++ cs') (ds ++ ds') := by
 refine ⟨by simp [h.1, k.1], fun i h1 h2 => ?_⟩
 by_cases hi : i < cs.length
 ·rw [List.getElem_append_left hi, List.getElem_append_left (by rw [← h.1]; exact hi)]
  exact h.2 i hi _
 ·have hl := h.1
  rw [List.getElem_append_right (by omega), List.getElem_append_right (by omega)]
  have := k.2 (i - cs.length) (by simp at h1; omega) (by have := k.1; simp at h1; omega)
  simpa [hl] using this
theorem Rd.one {w : World} {c : Value} {d : D} (h : RVd w.cell? (fun _ => True) d c) : Rd w [c] [d] := ⟨rfl, fun i h1 h2 => by
 have : i = 0 := by simpa using h1
 subst this
 exact h⟩
def Light {H : Type} (P : Program) (T : TypeId) (d : DataW H) : Prop := (d.weights P T).all (· ≤ reachBytes) = true
structure Rdr (P : Program) (T : TypeId) (α : Type) where
 enc : α → List D
 ok : α → Prop
 len : ∀ x, (enc x).length = P.cellsOf T
 sound : ∀ {H : Type} (e : TypeId × Value → H) (w : World) (base : Nat) (spare : Nat → Bool) (held : Bool) (fuel : Nat) (cs : List Value) (x : DataW H × List MemPlace),
  DataW.trod e P w base spare held fuel T cs = some x → ∃ y, Rd w cs (enc y) ∧ (Light P T x.1 → ok y)
def Rdr.int {T : TypeId} {k : IntKind} (h : P.underlying T = some (.int k)) (hc : P.cellsOf T = 1) : Rdr P T Int where
 enc n := [.raw (.int k n)]
 ok n := (Lit.int k n).wf = true
 len _ := by simp [hc]
 sound e w base spare held fuel cs x hx := by
  cases fuel with
  | zero => simp [DataW.trod] at hx
  | succ n =>
   unfold DataW.trod at hx
   rw [h] at hx
   split at hx <;> simp_all
   rename_i k' n' _
   exact ⟨n', Rd.one (.raw rfl), fun _ => hx.1.2⟩
theorem cells_spec {w : World} {base : Nat} {a : Addr} {n : Nat} {l : List Value} (h : w.cells? base a n = some l) : l.length = n ∧ ∀ i (hi : i < l.length), w.cell? (a.add i) = some l[i] := by
 unfold World.cells? at h
 split at h
 ·have h1 : l.length = n := by have := mapM_some_length h; simpa using this
  refine ⟨h1, fun i hi => ?_⟩
  have hin : i < n := by omega
  have := mapM_some_get h i i (by simp [hin])
  rw [this]
  exact List.getElem?_eq_getElem hi
 ·cases h
theorem light_slice {H : Type} {T E : TypeId} (h : P.underlying T = some (.slice E)) {elems rest : List (DataW H)} (hl : Light P T (.slice elems rest)) : elems.length * P.bytesOf E ≤ reachBytes ∧ ∀ d ∈ elems, Light P E d := by
 unfold Light at hl ⊢
 simp only [DataW.weights, h, List.all_cons, List.all_append, Bool.and_eq_true, decide_eq_true_eq] at hl
 refine ⟨Nat.le_trans (Nat.mul_le_mul_right _ (Nat.le_add_right _ _)) hl.1, ?_⟩
 have key : ∀ l : List (DataW H), (DataW.weightsAll P E l).all (· ≤ reachBytes) = true → ∀ d ∈ l, (d.weights P E).all (· ≤ reachBytes) = true := by
  intro l
  induction l with
  | nil => intro _ d hd; simp at hd
  | cons x l ih =>
   intro hx d hd
   simp only [DataW.weightsAll, List.all_append, Bool.and_eq_true] at hx
   rcases List.mem_cons.1 hd with rfl | hd
   ·exact hx.1
   ·exact ih hx.2 d hd
 exact key elems hl.2.1
def Rdr.slice {T E : TypeId} {α : Type} (r : Rdr P E α) (h : P.underlying T = some (.slice E)) (hc : P.cellsOf T = 1) : Rdr P T (List α) where
 enc l := [.sl (P.cellsOf E) (l.map r.enc)]
 ok l := (∀ x ∈ l, r.ok x) ∧ l.length * P.bytesOf E ≤ reachBytes
 len _ := by simp [hc]
 sound e w base spare held fuel cs x hx := by
  rcases DataW.trod_slice h hx with ⟨rfl, rfl⟩ | ⟨a, len, cap, elems, rest, n, rfl, rfl, rfl, hb, hl, hm, hel, hat, _⟩
  ·exact ⟨[], Rd.one (.sl (es := []) (fun _ _ => default) (Nat.le_refl _) (by decide) (by simp) (by simp) (by simp) (by simp)), fun _ => ⟨by simp, by simp⟩⟩
  ·have key : ∀ i (hi : i < elems.length), ∃ cs y, cs.length = P.cellsOf E ∧ (∀ j (hj : j < cs.length), w.cell? (a.add (i * P.cellsOf E + j)) = some cs[j]) ∧ Rd w cs (r.enc y) ∧ (Light P E elems[i].1 → r.ok y) := by
    intro i hi
    have h1 := hat i (by omega)
    have h2 : elems[i]? = some elems[i] := List.getElem?_eq_getElem hi
    rw [h2, Option.bind_eq_some_iff] at h1
    obtain ⟨cs, hcs, htr⟩ := h1
    obtain ⟨hcl, hcc⟩ := cells_spec hcs
    obtain ⟨y, hy, hok⟩ := r.sound e w base spare held n cs _ htr
    refine ⟨cs, y, hcl, fun j hj => ?_, hy, hok⟩
    rw [← Addr.add_add]
    exact hcc j hj
   have pick : ∀ m, m ≤ elems.length → ∃ ys : List α, ys.length = m ∧ (∀ i (hi : i < ys.length) (hi2 : i < elems.length), ∃ cs, cs.length = P.cellsOf E ∧ (∀ j (hj : j < cs.length), w.cell? (a.add (i * P.cellsOf E + j)) = some cs[j]) ∧ Rd w cs (r.enc ys[i]) ∧ (Light P E elems[i].1 → r.ok ys[i])) := by
    intro m
    induction m with
    | zero => intro _; exact ⟨[], rfl, fun i hi => by simp at hi⟩
    | succ m ih =>
     intro hm'
     obtain ⟨ys, hys, hall⟩ := ih (by omega)
     obtain ⟨cs, y, g1, g2, g3, g4⟩ := key m (by omega)
     refine ⟨ys ++ [y], by simp [hys], fun i hi hi2 => ?_⟩
     by_cases him : i < ys.length
     ·rw [List.getElem_append_left him]
      exact hall i him hi2
     ·have : i = m := by simp at hi; omega
      subst this
      have e1 : (ys ++ [y])[i] = y := by
       rw [List.getElem_append_right (by omega)]
       simp
      rw [e1]
      exact ⟨cs, g1, g2, g3, g4⟩
   obtain ⟨ys, hys, hall⟩ := pick elems.length (Nat.le_refl _)
   refine ⟨ys, Rd.one ?_, fun hli => ?_⟩
   ·have hlen : len = ys.length := by omega
    subst hlen
    have hml : ys.length = (ys.map r.enc).length := by simp
    rw [hml]
    refine .sl (fun i j => (w.cell? (a.add (i * P.cellsOf E + j))).getD default) (by simpa using hl) hm (fun e he => ?_) (fun _ => ⟨a, rfl⟩) (fun a' ha' i j hi hj => ?_) (fun i j hi hj => ?_)
    ·obtain ⟨y, _, rfl⟩ := List.mem_map.1 he
     exact r.len y
    ·cases ha'
     obtain ⟨cs, g1, g2, _⟩ := hall i (by simpa using hi) (by simp at hi; omega)
     rw [g2 j (by omega)]
     exact ⟨trivial, rfl⟩
    ·obtain ⟨cs, g1, g2, g3, _⟩ := hall i (by simpa using hi) (by simp at hi; omega)
     simp only [List.getElem_map] at hj ⊢
     have hjc : j < cs.length := by rw [g3.1]; exact hj
     rw [g2 j hjc]
     exact g3.2 j hjc hj
   ·obtain ⟨w1, w2⟩ := light_slice h hli
    refine ⟨fun y hy => ?_, by simpa [hys] using w1⟩
    obtain ⟨i, hi, rfl⟩ := List.getElem_of_mem hy
    obtain ⟨_, _, _, _, h4⟩ := hall i hi (by omega)
    exact h4 (w2 _ (List.mem_map.2 ⟨_, List.getElem_mem _, rfl⟩))
def Rdr.map {T : TypeId} {α β : Type} (r : Rdr P T α) (f : α → β) (enc : β → List D) (ok : β → Prop) (he : ∀ x, enc (f x) = r.enc x) (hok : ∀ x, r.ok x → ok (f x)) (hl : ∀ y, (enc y).length = P.cellsOf T) : Rdr P T β where
 enc := enc
 ok := ok
 len := hl
 sound e w base spare held fuel cs x hx := by
  obtain ⟨y, h1, h2⟩ := r.sound e w base spare held fuel cs x hx
  exact ⟨f y, by rw [he]; exact h1, fun hl => hok y (h2 hl)⟩
def Rdr.sliceN {T E : TypeId} {α : Type} (r : Rdr P E α) (n : Nat) (h : P.underlying T = some (.slice E)) (hc : P.cellsOf T = 1) (hn : P.cellsOf E = n) : Rdr P T (List α) where
 enc l := [.sl n (l.map r.enc)]
 ok l := (∀ x ∈ l, r.ok x) ∧ l.length * P.bytesOf E ≤ reachBytes
 len _ := by simp [hc]
 sound := by
  subst hn
  exact (Rdr.slice r h hc).sound
theorem list2 {α : Type} {l : List α} (h : l.length = 2) : l = [l[0]'(by omega), l[1]'(by omega)] := by
 match l, h with
 | [p, q], _ => rfl
theorem list3 {α : Type} {l : List α} (h : l.length = 3) : l = [l[0]'(by omega), l[1]'(by omega), l[2]'(by omega)] := by
 match l, h with
 | [p, q, r], _ => rfl
def Rdr.struct2 {T A B : TypeId} {α β : Type} (r : Rdr P A α) (s : Rdr P B β) {f0 f1 : Field} (h : P.underlying T = some (.struct #[f0, f1])) (hA : f0.type = A) (hB : f1.type = B) (h0 : f0.offset = 0) (h1 : f1.offset = P.cellsOf A)
  (hc : P.cellsOf T = P.cellsOf A + P.cellsOf B) : Rdr P T (α × β) where
 enc x := r.enc x.1 ++ s.enc x.2
 ok x := r.ok x.1 ∧ s.ok x.2
 len x := by simp [r.len, s.len, hc]
 sound e w base spare held fuel cs x hx := by
  obtain ⟨xs, n, rfl, rfl, hl, hxs, hat⟩ := DataW.trod_struct h hx
  have hxs' : xs.length = 2 := hxs
  have g0 := hat 0 f0 rfl
  have g1 := hat 1 f1 rfl
  have e0 : xs[0]? = some (xs[0]'(by omega)) := List.getElem?_eq_getElem (by omega)
  have e1 : xs[1]? = some (xs[1]'(by omega)) := List.getElem?_eq_getElem (by omega)
  rw [e0, h0, hA] at g0
  rw [e1, h1, hB] at g1
  obtain ⟨y, k1, k2⟩ := r.sound e w base spare held n _ _ g0
  obtain ⟨z, m1, m2⟩ := s.sound e w base spare held n _ _ g1
  refine ⟨(y, z), ?_, fun hli => ?_⟩
  rotate_left
  ·unfold Light at hli k2 m2
   have e2 : xs = [xs[0]'(by omega), xs[1]'(by omega)] := list2 hxs'
   rw [e2] at hli
   simp only [List.map_cons, List.map_nil, DataW.weights, h, DataW.weightsEach, hA, hB, List.all_append, Bool.and_eq_true] at hli
   exact ⟨k2 hli.1, m2 hli.2.1⟩
  have hcs : cs = (cs.drop 0).take (P.cellsOf A) ++ (cs.drop (P.cellsOf A)).take (P.cellsOf B) := by
   have : (cs.drop (P.cellsOf A)).take (P.cellsOf B) = cs.drop (P.cellsOf A) := List.take_of_length_le (by simp; omega)
   rw [this, List.drop_zero, List.take_append_drop]
  rw [hcs]
  exact k1.append m1
def Rdr.struct3 {T A B C : TypeId} {α β γ : Type} (r : Rdr P A α) (s : Rdr P B β) (t : Rdr P C γ) {f0 f1 f2 : Field} (h : P.underlying T = some (.struct #[f0, f1, f2])) (hA : f0.type = A) (hB : f1.type = B) (hC : f2.type = C)
  (h0 : f0.offset = 0) (h1 : f1.offset = P.cellsOf A) (h2 : f2.offset = P.cellsOf A + P.cellsOf B) (hc : P.cellsOf T = P.cellsOf A + P.cellsOf B + P.cellsOf C) : Rdr P T (α × β × γ) where
 enc x := r.enc x.1 ++ (s.enc x.2.1 ++ t.enc x.2.2)
 ok x := r.ok x.1 ∧ s.ok x.2.1 ∧ t.ok x.2.2
 len x := by simp [r.len, s.len, t.len, hc]; omega
 sound e w base spare held fuel cs x hx := by
  obtain ⟨xs, n, rfl, rfl, hl, hxs, hat⟩ := DataW.trod_struct h hx
  have hxs' : xs.length = 3 := hxs
  have g0 := hat 0 f0 rfl
  have g1 := hat 1 f1 rfl
  have g2 := hat 2 f2 rfl
  have e0 : xs[0]? = some (xs[0]'(by omega)) := List.getElem?_eq_getElem (by omega)
  have e1 : xs[1]? = some (xs[1]'(by omega)) := List.getElem?_eq_getElem (by omega)
  have e2 : xs[2]? = some (xs[2]'(by omega)) := List.getElem?_eq_getElem (by omega)
  rw [e0, h0, hA] at g0
  rw [e1, h1, hB] at g1
  rw [e2, h2, hC] at g2
  obtain ⟨y, k1, k2⟩ := r.sound e w base spare held n _ _ g0
  obtain ⟨z, m1, m2⟩ := s.sound e w base spare held n _ _ g1
  obtain ⟨q, p1, p2⟩ := t.sound e w base spare held n _ _ g2
  refine ⟨(y, z, q), ?_, fun hli => ?_⟩
  rotate_left
  ·unfold Light at hli k2 m2 p2
   have e2 : xs = [xs[0]'(by omega), xs[1]'(by omega), xs[2]'(by omega)] := list3 hxs'
   rw [e2] at hli
   simp only [List.map_cons, List.map_nil, DataW.weights, h, DataW.weightsEach, hA, hB, hC, List.all_append, Bool.and_eq_true] at hli
   exact ⟨k2 hli.1, m2 hli.2.1, p2 hli.2.2.1⟩
  have hcs : cs = (cs.drop 0).take (P.cellsOf A) ++ ((cs.drop (P.cellsOf A)).take (P.cellsOf B) ++ (cs.drop (P.cellsOf A + P.cellsOf B)).take (P.cellsOf C)) := by
   have : (cs.drop (P.cellsOf A + P.cellsOf B)).take (P.cellsOf C) = cs.drop (P.cellsOf A + P.cellsOf B) := List.take_of_length_le (by simp; omega)
   rw [this, ← List.drop_drop, List.take_append_drop, List.drop_zero, List.take_append_drop]
  rw [hcs]
  exact k1.append (m1.append p1)
def G0 : Gh := ⟨fun _ => none, fun _ => none, fun _ => .whole, 0⟩
def m0 : AMem := ⟨fun _ => none, 0, fun _ => false, 0⟩
theorem G0_ps (a : Addr) : G0.ps a := trivial
theorem relM_start (W : World) : RelM G0 m0 W := by
 constructor
 case box => intro k rows b sz h; cases h
 case nobox => intro k _; rfl
 case inj => intro k k' b sz sz' h; cases h
 case nb => intro k _; rfl
 case nt => rfl
 case toks => intro t h; cases h
 case tokb => intro t g h; cases h
 case tinj => intro t t' g h; cases h
 case tnt => intro t x h; cases h
 case fresh => intro b _; rfl
theorem RVd.start {W : World} {d : D} {v : Value} (h : RVd W.cell? (fun _ => True) d v) : RVd W.cell? G0.ps d v := h.mono fun a u _ hc => ⟨G0_ps a, hc⟩
theorem Rdr.agg {T : TypeId} {α : Type} (r : Rdr P T α) {W : World} {base base' : Nat} {sp : Nat → Bool} {held : Bool} {H : Type} {enc : TypeId × Value → H} {v : Value} {d : DataW H} {p : List MemPlace}
  (hs : aggT P T = some true) (hv : Value.okWide P W .any base T v) (h : DataW.Trod enc P W base' sp held T v d p) (hli : Light P T d) : ∃ y, r.ok y ∧ RV G0 W (.agg ((r.enc y).map .d)) v := by
 have hcs : ∃ cs, v = .agg cs := by
  unfold aggT at hs
  unfold Value.okWide at hv
  cases hu : P.underlying T with
  | none => rw [hu] at hs; simp at hs
  | some u =>
   rw [hu] at hs hv
   cases u <;> simp at hs hv <;> exact ⟨_, hv.choose_spec.1⟩
 obtain ⟨cs, rfl⟩ := hcs
 obtain ⟨fuel, h⟩ := h
 obtain ⟨y, ⟨h1, h2⟩, hok⟩ := r.sound enc W base' sp held fuel _ _ h
 refine ⟨y, hok hli, ?_⟩
 simp only [Value.cells] at h1 h2
 have := RV.agg (G := G0) (w := W) (cs := (r.enc y).map .d) (vs := cs.toList) (by simp [h1]) (fun i g1 g2 => by
  simp only [List.getElem_map]
  exact .d (h2 i g2 (by simpa using g1)).start) (fun v hv => by
  obtain ⟨i, hi, rfl⟩ := List.getElem_of_mem hv
  exact (h2 i hi (by omega)).one)
 simpa using this
theorem Rdr.cell {T : TypeId} {α : Type} (r : Rdr P T α) {W : World} {base base' : Nat} {sp : Nat → Bool} {held : Bool} {H : Type} {enc : TypeId × Value → H} {v : Value} {d : DataW H} {p : List MemPlace} (f : α → D)
  (hs : aggT P T = some false) (hf : ∀ y, r.enc y = [f y]) (hv : Value.okWide P W .any base T v) (h : DataW.Trod enc P W base' sp held T v d p) (hli : Light P T d) : ∃ y, r.ok y ∧ RV G0 W (.d (f y)) v := by
 obtain ⟨fuel, h⟩ := h
 obtain ⟨y, ⟨h1, h2⟩, hok⟩ := r.sound enc W base' sp held fuel _ _ h
 refine ⟨y, hok hli, ?_⟩
 rw [hf] at h1
 have hcs : v.cells.toList = [v] := by
  cases v with
  | agg cs =>
   exfalso
   unfold aggT at hs
   unfold Value.okWide Cell.okWide Cell.ok at hv
   cases hu : P.underlying T with
   | none => rw [hu] at hs; simp at hs
   | some u =>
    rw [hu] at hs hv
    cases u <;> simp_all
  | _ => rfl
 have := h2 0 (by rw [h1]; simp) (by rw [hf]; simp)
 simp only [hf, List.getElem_cons_zero] at this
 have e : v.cells.toList[0]'(by rw [h1]; simp) = v := by simp [hcs]
 rw [e] at this
 exact .d this.start
theorem light_arg {H : Type} {ts : List TypeId} {ds : List (DataW H)} (hz : (DataW.weightsEach P ts ds).all (· ≤ reachBytes) = true) {j : Nat} {T : TypeId} {d : DataW H} (ht : ts[j]? = some T) (hd : ds[j]? = some d) : Light P T d :=
 List.all_eq_true.2 fun x hx => List.all_eq_true.1 hz x (DataW.weights_mem_each ht hd x hx)
theorem arg_agg {ps : Array TypeId} {args : Array Value} {W : World} {base base' : Nat} {sp : Nat → Bool} {held : Bool} {H : Type} {enc : TypeId × Value → H} (hval : ∀ (j : Nat) t v, ps[j]? = some t → args[j]? = some v → Value.okWide P W .any base t v)
  (j : Nat) (T : TypeId) (v : Value) (hp : ps[j]? = some T) (ha : args[j]? = some v) {α : Type} (r : Rdr P T α) {d : DataW H} {p : List MemPlace} (hs : aggT P T = some true) (h : DataW.Trod enc P W base' sp held T v d p) (hli : Light P T d) :
  ∃ y, r.ok y ∧ RV G0 W (.agg ((r.enc y).map .d)) v := r.agg hs (hval j T v hp ha) h hli
theorem le_old {W W' : World} {G' : Gh} (h : Le G0 W G' W') (b : Nat) (hb : b < W.heap.size) : W'.heap[b]? = W.heap[b]? := (h.whole b hb rfl).2
theorem le_kept {W W' : World} {G' : Gh} (h : Le G0 W G' W') (may : MemPlace → Prop) : W.keptBut W' may := by
 refine ⟨h.os, h.output, fun i hi => ?_⟩
 rw [le_old h i hi]
 split
 ·rename_i c t fr c' t' fr' e1 e2
  rw [e1] at e2
  cases e2
  exact ⟨rfl, rfl, rfl, fun _ _ => rfl⟩
 ·rename_i e1 e2
  rw [e1] at e2
  cases e2
  exact .inr ⟨rfl, rfl⟩
 ·rfl
theorem le_same {W W' : World} {G' : Gh} (h : Le G0 W G' W') {p : MemPlace} (hp : p.block < W.heap.size) : W.sameAt W' p := by
 cases p with
 | cell b off => exact World.cell?_of_block (w := W) (a := ⟨b, off, none⟩) (le_old h b hp)
 | map b => exact le_old h b hp
theorem trodAll_stays {H : Type} {enc : TypeId × Value → H} {W W' : World} {T : TypeId → Prop} {sp' : Nat → Bool} (K : Kids P T) (hsz : ∀ {t e : TypeId}, T t → P.underlying t = some (.slice e) → 0 < P.cellsOf e) :
  ∀ {ts : List TypeId} {vs : List Value} {ds : List (DataW H)} {ps : List MemPlace}, (∀ t ∈ ts, T t) → DataW.TrodAll enc P W 0 (fun _ => true) true ts vs ds ps → (∀ p ∈ ps, W.sameAt W' p) → (∀ p ∈ ps, sp' p.block = true) →
  DataW.TrodAll enc P W' 0 sp' true ts vs ds ps
 | [], [], [], _, _, h, _, _ => h
 | t :: ts, v :: vs, d :: ds, _, hT, ⟨p, q, ⟨n, hn⟩, h2, e⟩, h3, h4 => by
  subst e
  exact ⟨p, q, ⟨n, DataW.trod_stays K hsz (fun h => by cases h) (hT t (by simp)) hn (fun x hx => h3 x (by simp [hx])) (fun x hx => h4 x (by simp [hx]))⟩,
   trodAll_stays K hsz (fun t ht => hT t (by simp [ht])) h2 (fun x hx => h3 x (by simp [hx])) (fun x hx => h4 x (by simp [hx])), rfl⟩
theorem law_of {f : FuncId} {fn : Func} {s : ChangeSpec} {H : Type} {enc : TypeId × Value → H} {W : World} {args : Array Value} {ds : List (DataW H)} {before : List MemPlace} {avs : List AV} {tok' : Nat → Bool} {nt' : Nat}
  (hl : laidOutB P = true) (hm : mapsRowed P = true) (hz : ((List.range P.types.size).all fun t => match P.underlying t with | some (.slice e) => decide (0 < P.cellsOf e) | _ => true) = true)
  (hpar : fn.params.all (· < P.types.size) = true) {tb : TypeId} (hres : fn.resultTypes = #[tb]) (hb : P.underlying tb = some .bool)
  (hvars : s.vars = []) (hfn : s.fn H ds = { results := [.lit (.bool true)], args := ds })
  (hW : DataW.Whole enc P fn.params.toList s.vars false W args.toList ds [] before) (hr : RVs G0 W avs args.toList) (hc : DCall P f avs (fun _ => false) 0 (B true) tok' nt') :
  Calls P f args W fun e W' => ∃ v, e = .returned v ∧ s.post enc P fn false true false false W args v W' := by
 have hcall := (hc (fun _ => none) 0).2 G0 W args.toList (relM_start W) hr
 simp only [Array.toArray_toList] at hcall
 refine hcall.mono ?_
 rintro e W' ⟨v, av, m', G', rfl, ⟨rfl, rfl⟩, _, _, hv, hle, _⟩
 cases hv with
 | d hv =>
  cases hv with
  | raw =>
   refine ⟨_, rfl, ?_⟩
   have hlt := hW.lt
   have hWW := hW
   obtain ⟨p, q, hA, hV, rfl, hfz, hnd⟩ := hW
   rw [hvars] at hV
   obtain ⟨_, rfl⟩ := trodVars_none hV
   simp only [List.append_nil] at hlt hfz hWW ⊢
   have hT : ∀ t ∈ fn.params.toList, t < P.types.size := fun t ht => by
    have := Array.all_eq_true_iff_forall_mem.1 hpar t (by simpa using ht)
    simpa using this
   have hsz : ∀ {t e : TypeId}, t < P.types.size → P.underlying t = some (.slice e) → 0 < P.cellsOf e := by
    intro t e ht hu
    have := List.all_eq_true.1 hz t (List.mem_range.2 ht)
    rw [hu] at this
    simpa using this
   have hargs : ∀ sp : Nat → Bool, (∀ x ∈ p, sp x.block = true) → DataW.TrodAll enc P W' 0 sp true fn.params.toList args.toList ds p := fun sp hsp =>
    trodAll_stays (kids_rows hl hm) hsz hT hA (fun x hx => le_same hle (hlt x hx)) hsp
   have hnat : (Value.bool true).resultList fn.resultTypes.size = [.bool true] := by rw [hres]; rfl
   have hresb : ∀ (b : Nat) (sp : Nat → Bool) (hd : Bool), DataW.TrodAll enc P W' b sp hd fn.resultTypes.toList ((Value.bool true).resultList fn.resultTypes.size) [.lit (.bool true)] [] := fun b sp hd => by
    rw [hnat, hres]
    exact trodAll_mk1 ⟨1, by simp [DataW.trod, hb, Value.cells]⟩
   have hfn' : s.fn H (ds ++ []) = { results := [.lit (.bool true)], args := ds } := by rw [List.append_nil]; exact hfn
   refine ⟨ds, [], p, [], p, [], hWW, ?_, ?_, ?_, World.keptBut_mono (fun _ f => f.elim) (le_kept hle fun _ => False), fun h => by cases h⟩
   ·rw [hfn']; exact hresb _ _ _
   ·rw [hfn']; exact hargs _ fun x hx => by simpa using hlt x hx
   ·rw [hfn', hvars]; exact rfl
end Go.AM
namespace Go.AM
open Go Go.Proofs
theorem own0 : ownKnob Tryz.prog.godebug = none := by kernel_rfl
theorem laidOut0 : laidOutB Tryz.prog = true := by kernel_rfl
theorem mapsRowed0 : mapsRowed Tryz.prog = true := by kernel_rfl
theorem slices0 : ((List.range Tryz.prog.types.size).all fun t => match Tryz.prog.underlying t with | some (.slice e) => decide (0 < Tryz.prog.cellsOf e) | _ => true) = true := by kernel_rfl
def rdInt : Rdr Tryz.prog 3 Int := Rdr.int (k := .i64) Tryz.underlying3 (by kernel_rfl)
def rdInts : Rdr Tryz.prog 26 (List Int) := rdInt.sliceN 1 Tryz.underlying26 (by kernel_rfl) (by kernel_rfl)
def rdEdge0 : Rdr Tryz.prog 139 (Int × Int × Int) := Rdr.struct3 rdInt rdInt rdInt Tryz.underlying139 rfl rfl rfl rfl (by kernel_rfl) (by kernel_rfl) (by kernel_rfl)
def rdEdge : Rdr Tryz.prog 139 E := rdEdge0.map (fun x => ⟨x.1, x.2.1, x.2.2⟩) E.cells (fun _ => True) (fun _ => rfl) (fun _ _ => trivial) (fun _ => by kernel_rfl)
def rdEdges : Rdr Tryz.prog 27 (List E) := rdEdge.sliceN 3 Tryz.underlying27 (by kernel_rfl) (by kernel_rfl)
def rdGraph0 : Rdr Tryz.prog 29 (List Int × List E) := Rdr.struct2 rdInts rdEdges Tryz.underlying29 rfl rfl rfl (by kernel_rfl) (by kernel_rfl)
end Go.AM
namespace Go.AM
open Go Go.Proofs Go.ChangeShapes
structure RdF (P : Program) (T : TypeId) {α : Type} (en : α → List D) (ok : α → Prop) (n : Nat) : Prop where
 sound : ∀ {H : Type} (e : TypeId × Value → H) (w : World) (base : Nat) (spare : Nat → Bool) (held : Bool) (cs : List Value) (x : DataW H × List MemPlace),
  DataW.trod e P w base spare held n T cs = some x → ∃ y, Rd w cs (en y) ∧ (Light P T x.1 → ok y)
theorem Rdr.f {P : Program} {T : TypeId} {α : Type} (r : Rdr P T α) (n : Nat) : RdF P T r.enc r.ok n := ⟨fun e w base spare held cs x hx => r.sound e w base spare held n cs x hx⟩
theorem RdF.zero {P : Program} {T : TypeId} {α : Type} {en : α → List D} {ok : α → Prop} : RdF P T en ok 0 := ⟨fun e w base spare held cs x hx => by simp [DataW.trod] at hx⟩
def Rdr.ofF {P : Program} {T : TypeId} {α : Type} (en : α → List D) (ok : α → Prop) (len : ∀ x, (en x).length = P.cellsOf T) (h : ∀ n, RdF P T en ok n) : Rdr P T α := ⟨en, ok, len, fun e w base spare held n cs x hx => (h n).sound e w base spare held cs x hx⟩
theorem RdF.slice {P : Program} {T E : TypeId} {α : Type} {en : α → List D} {ok : α → Prop} {n : Nat} (r : RdF P E en ok n) (k : Nat) (hk : P.cellsOf E = k) (hlen : ∀ x, (en x).length = k) (h : P.underlying T = some (.slice E)) :
  RdF P T (fun l : List α => [.sl k (l.map en)]) (fun l => (∀ x ∈ l, ok x) ∧ l.length * P.bytesOf E ≤ reachBytes) (n + 1) := by
 subst hk
 constructor
 intro H e w base spare held cs x hx
 rcases DataW.trod_slice h hx with ⟨rfl, rfl⟩ | ⟨a, len, cap, elems, rest, n', hn', rfl, rfl, hb, hl, hm, hel, hat, _⟩
 ·exact ⟨[], Rd.one (.sl (es := []) (fun _ _ => default) (Nat.le_refl _) (by decide) (by simp) (by simp) (by simp) (by simp)), fun _ => ⟨by simp, by simp⟩⟩
 ·obtain rfl : n' = n := by omega
  have key : ∀ i (hi : i < elems.length), ∃ cs y, cs.length = P.cellsOf E ∧ (∀ j (hj : j < cs.length), w.cell? (a.add (i * P.cellsOf E + j)) = some cs[j]) ∧ Rd w cs (en y) ∧ (Light P E elems[i].1 → ok y) := by
   intro i hi
   have h1 := hat i (by omega)
   have h2 : elems[i]? = some elems[i] := List.getElem?_eq_getElem hi
   rw [h2, Option.bind_eq_some_iff] at h1
   obtain ⟨cs, hcs, htr⟩ := h1
   obtain ⟨hcl, hcc⟩ := cells_spec hcs
   obtain ⟨y, hy, hok⟩ := r.sound e w base spare held cs _ htr
   refine ⟨cs, y, hcl, fun j hj => ?_, hy, hok⟩
   rw [← Addr.add_add]
   exact hcc j hj
  have pick : ∀ m, m ≤ elems.length → ∃ ys : List α, ys.length = m ∧ (∀ i (hi : i < ys.length) (hi2 : i < elems.length), ∃ cs, cs.length = P.cellsOf E ∧ (∀ j (hj : j < cs.length), w.cell? (a.add (i * P.cellsOf E + j)) = some cs[j]) ∧ Rd w cs (en ys[i]) ∧ (Light P E elems[i].1 → ok ys[i])) := by
   intro m
   induction m with
   | zero => intro _; exact ⟨[], rfl, fun i hi => by simp at hi⟩
   | succ m ih =>
    intro hm'
    obtain ⟨ys, hys, hall⟩ := ih (by omega)
    obtain ⟨cs, y, g1, g2, g3, g4⟩ := key m (by omega)
    refine ⟨ys ++ [y], by simp [hys], fun i hi hi2 => ?_⟩
    by_cases him : i < ys.length
    ·rw [List.getElem_append_left him]
     exact hall i him hi2
    ·have : i = m := by simp at hi; omega
     subst this
     have e1 : (ys ++ [y])[i] = y := by
      rw [List.getElem_append_right (by omega)]
      simp
     rw [e1]
     exact ⟨cs, g1, g2, g3, g4⟩
  obtain ⟨ys, hys, hall⟩ := pick elems.length (Nat.le_refl _)
  refine ⟨ys, Rd.one ?_, fun hli => ?_⟩
  ·have hlen' : len = ys.length := by omega
   subst hlen'
   have hml : ys.length = (ys.map en).length := by simp
   rw [hml]
   refine .sl (fun i j => (w.cell? (a.add (i * P.cellsOf E + j))).getD default) (by simpa using hl) hm (fun e he => ?_) (fun _ => ⟨a, rfl⟩) (fun a' ha' i j hi hj => ?_) (fun i j hi hj => ?_)
   ·obtain ⟨y, _, rfl⟩ := List.mem_map.1 he
    exact hlen y
   ·cases ha'
    obtain ⟨cs, g1, g2, _⟩ := hall i (by simpa using hi) (by simp at hi; omega)
    rw [g2 j (by omega)]
    exact ⟨trivial, rfl⟩
   ·obtain ⟨cs, g1, g2, g3, _⟩ := hall i (by simpa using hi) (by simp at hi; omega)
    simp only [List.getElem_map] at hj ⊢
    have hjc : j < cs.length := by rw [g3.1]; exact hj
    rw [g2 j hjc]
    exact g3.2 j hjc hj
  ·obtain ⟨w1, w2⟩ := light_slice h hli
   refine ⟨fun y hy => ?_, by simpa [hys] using w1⟩
   obtain ⟨i, hi, rfl⟩ := List.getElem_of_mem hy
   obtain ⟨_, _, _, _, h4⟩ := hall i hi (by omega)
   exact h4 (w2 _ (List.mem_map.2 ⟨_, List.getElem_mem _, rfl⟩))
theorem list4 {α : Type} {l : List α} (h : l.length = 4) : l = [l[0]'(by omega), l[1]'(by omega), l[2]'(by omega), l[3]'(by omega)] := by
 match l, h with
 | [p, q, r, s], _ => rfl
theorem RdF.struct4 {P : Program} {T A B C E : TypeId} {α β γ δ : Type} {ea : α → List D} {eb : β → List D} {ec : γ → List D} {ed : δ → List D} {oa : α → Prop} {ob : β → Prop} {oc : γ → Prop} {od : δ → Prop} {n : Nat}
  (r : RdF P A ea oa n) (s : RdF P B eb ob n) (t : RdF P C ec oc n) (u : RdF P E ed od n) {f0 f1 f2 f3 : Field} (h : P.underlying T = some (.struct #[f0, f1, f2, f3])) (hA : f0.type = A) (hB : f1.type = B) (hC : f2.type = C) (hE : f3.type = E)
  (h0 : f0.offset = 0) (h1 : f1.offset = P.cellsOf A) (h2 : f2.offset = P.cellsOf A + P.cellsOf B) (h3 : f3.offset = P.cellsOf A + P.cellsOf B + P.cellsOf C) (hc : P.cellsOf T = P.cellsOf A + P.cellsOf B + P.cellsOf C + P.cellsOf E) :
  RdF P T (fun x : α × β × γ × δ => ea x.1 ++ (eb x.2.1 ++ (ec x.2.2.1 ++ ed x.2.2.2))) (fun x => oa x.1 ∧ ob x.2.1 ∧ oc x.2.2.1 ∧ od x.2.2.2) (n + 1) := by
 constructor
 intro H e w base spare held cs x hx
 obtain ⟨xs, n', hn', rfl, hl, hxs, hat⟩ := DataW.trod_struct h hx
 obtain rfl : n' = n := by omega
 have hxs' : xs.length = 4 := hxs
 have g0 := hat 0 f0 rfl
 have g1 := hat 1 f1 rfl
 have g2 := hat 2 f2 rfl
 have g3 := hat 3 f3 rfl
 have e0 : xs[0]? = some (xs[0]'(by omega)) := List.getElem?_eq_getElem (by omega)
 have e1 : xs[1]? = some (xs[1]'(by omega)) := List.getElem?_eq_getElem (by omega)
 have e2 : xs[2]? = some (xs[2]'(by omega)) := List.getElem?_eq_getElem (by omega)
 have e3 : xs[3]? = some (xs[3]'(by omega)) := List.getElem?_eq_getElem (by omega)
 rw [e0, h0, hA] at g0
 rw [e1, h1, hB] at g1
 rw [e2, h2, hC] at g2
 rw [e3, h3, hE] at g3
 obtain ⟨y, k1, k2⟩ := r.sound e w base spare held _ _ g0
 obtain ⟨z, m1, m2⟩ := s.sound e w base spare held _ _ g1
 obtain ⟨q, p1, p2⟩ := t.sound e w base spare held _ _ g2
 obtain ⟨v, q1, q2⟩ := u.sound e w base spare held _ _ g3
 refine ⟨(y, z, q, v), ?_, fun hli => ?_⟩
 rotate_left
 ·unfold Light at hli k2 m2 p2 q2
  have e2 : xs = [xs[0]'(by omega), xs[1]'(by omega), xs[2]'(by omega), xs[3]'(by omega)] := list4 hxs'
  rw [e2] at hli
  simp only [List.map_cons, List.map_nil, DataW.weights, h, DataW.weightsEach, hA, hB, hC, hE, List.all_append, Bool.and_eq_true] at hli
  exact ⟨k2 hli.1, m2 hli.2.1, p2 hli.2.2.1, q2 hli.2.2.2.1⟩
 have hcs : cs = (cs.drop 0).take (P.cellsOf A) ++ ((cs.drop (P.cellsOf A)).take (P.cellsOf B) ++ ((cs.drop (P.cellsOf A + P.cellsOf B)).take (P.cellsOf C) ++ (cs.drop (P.cellsOf A + P.cellsOf B + P.cellsOf C)).take (P.cellsOf E))) := by
  have : (cs.drop (P.cellsOf A + P.cellsOf B + P.cellsOf C)).take (P.cellsOf E) = cs.drop (P.cellsOf A + P.cellsOf B + P.cellsOf C) := List.take_of_length_le (by simp; omega)
  rw [this]
  have e3 := List.take_append_drop (P.cellsOf C) (cs.drop (P.cellsOf A + P.cellsOf B))
  have e2 := List.take_append_drop (P.cellsOf B) (cs.drop (P.cellsOf A))
  rw [List.drop_drop] at e3 e2
  rw [e3, e2, List.drop_zero, List.take_append_drop]
 rw [hcs]
 exact k1.append (m1.append (p1.append q1))
theorem by_int : Tryz.prog.bytesOf 3 = 8 := by kernel_rfl
theorem by_edge : Tryz.prog.bytesOf 139 = 24 := by kernel_rfl
theorem rdInts_ok {l : List Int} (h : rdInts.ok l) : l.length ≤ bigN := by
 have h2 : l.length * Tryz.prog.bytesOf 3 ≤ reachBytes := h.2
 rw [by_int] at h2; unfold reachBytes at h2; rw [bigN_eq]; omega
theorem rdEdges_ok {l : List E} (h : rdEdges.ok l) : l.length ≤ bigN := by
 have h2 : l.length * Tryz.prog.bytesOf 139 ≤ reachBytes := h.2
 rw [by_edge] at h2; unfold reachBytes at h2; rw [bigN_eq]; omega
structure Gr.Big (g : Gr) : Prop where
 n : g.nodes.length ≤ bigN
 e : g.edges.length ≤ bigN
def rdGraphB : Rdr Tryz.prog 29 Gr := rdGraph0.map (fun x => ⟨x.1, x.2⟩) (fun g => [ints g.nodes, AM.edges g.edges]) Gr.Big (fun _ => rfl) (fun _ h => ⟨rdInts_ok h.1, rdEdges_ok h.2⟩) (fun _ => by kernel_rfl)
def rdMorph0 : Rdr Tryz.prog 38 (List Int × List Int) := Rdr.struct2 rdInts rdInts Tryz.underlying38 rfl rfl rfl (by kernel_rfl) (by kernel_rfl)
def Cd.rowD (c : Cd) : List D := [.raw (.int .i64 c.kind), conds c.kids, ints c.m.nodes, ints c.m.edges, ints c.g.nodes, AM.edges c.g.edges, slots c.sl, .raw (.int .i64 c.vars), tests c.te]
end Go.AM
namespace Go.AM
open Go Go.Proofs Go.ChangeShapes
def Rdr.str {P : Program} {T : TypeId} (h : P.underlying T = some .string) (hc : P.cellsOf T = 1) : Rdr P T ByteArray where
 enc n := [.raw (.string n)]
 ok n := n.size ≤ maxLen
 len _ := by simp [hc]
 sound e w base spare held fuel cs x hx := by
  cases fuel with
  | zero => simp [DataW.trod] at hx
  | succ n =>
   unfold DataW.trod at hx
   rw [h] at hx
   split at hx <;> simp_all
   exact ⟨_, Rd.one (.raw rfl), fun _ => hx.1⟩
def Rdr.bool {P : Program} {T : TypeId} (h : P.underlying T = some .bool) (hc : P.cellsOf T = 1) : Rdr P T Bool where
 enc n := [.raw (.bool n)]
 ok n := True
 len _ := by simp [hc]
 sound e w base spare held fuel cs x hx := by
  cases fuel with
  | zero => simp [DataW.trod] at hx
  | succ n =>
   unfold DataW.trod at hx
   rw [h] at hx
   split at hx <;> first | (simp_all; done) | skip
   exact ⟨_, Rd.one (.raw rfl), fun _ => trivial⟩
theorem list7 {α : Type} {l : List α} (h : l.length = 7) : l = [l[0]'(by omega), l[1]'(by omega), l[2]'(by omega), l[3]'(by omega), l[4]'(by omega), l[5]'(by omega), l[6]'(by omega)] := by
 match l, h with
 | [p0, p1, p2, p3, p4, p5, p6], _ => rfl
theorem RdF.struct7 {P : Program} {T T0 T1 T2 T3 T4 T5 T6 : TypeId} {a0 a1 a2 a3 a4 a5 a6 : Type} {e0 : a0 → List D} {e1 : a1 → List D} {e2 : a2 → List D} {e3 : a3 → List D} {e4 : a4 → List D} {e5 : a5 → List D} {e6 : a6 → List D} {o0 : a0 → Prop} {o1 : a1 → Prop} {o2 : a2 → Prop} {o3 : a3 → Prop} {o4 : a4 → Prop} {o5 : a5 → Prop} {o6 : a6 → Prop} {n : Nat}
  (r0 : RdF P T0 e0 o0 n) (r1 : RdF P T1 e1 o1 n) (r2 : RdF P T2 e2 o2 n) (r3 : RdF P T3 e3 o3 n) (r4 : RdF P T4 e4 o4 n) (r5 : RdF P T5 e5 o5 n) (r6 : RdF P T6 e6 o6 n) {f0 f1 f2 f3 f4 f5 f6 : Field} (h : P.underlying T = some (.struct #[f0, f1, f2, f3, f4, f5, f6])) (t0 : f0.type = T0) (t1 : f1.type = T1) (t2 : f2.type = T2) (t3 : f3.type = T3) (t4 : f4.type = T4) (t5 : f5.type = T5) (t6 : f6.type = T6)
  (h0 : f0.offset = 0) (h1 : f1.offset = P.cellsOf T0) (h2 : f2.offset = P.cellsOf T0 + P.cellsOf T1) (h3 : f3.offset = P.cellsOf T0 + P.cellsOf T1 + P.cellsOf T2) (h4 : f4.offset = P.cellsOf T0 + P.cellsOf T1 + P.cellsOf T2 + P.cellsOf T3) (h5 : f5.offset = P.cellsOf T0 + P.cellsOf T1 + P.cellsOf T2 + P.cellsOf T3 + P.cellsOf T4) (h6 : f6.offset = P.cellsOf T0 + P.cellsOf T1 + P.cellsOf T2 + P.cellsOf T3 + P.cellsOf T4 + P.cellsOf T5) (hc : P.cellsOf T = P.cellsOf T0 + P.cellsOf T1 + P.cellsOf T2 + P.cellsOf T3 + P.cellsOf T4 + P.cellsOf T5 + P.cellsOf T6) :
  RdF P T (fun x : a0 × a1 × a2 × a3 × a4 × a5 × a6 => e0 x.1 ++ (e1 x.2.1 ++ (e2 x.2.2.1 ++ (e3 x.2.2.2.1 ++ (e4 x.2.2.2.2.1 ++ (e5 x.2.2.2.2.2.1 ++ e6 x.2.2.2.2.2.2)))))) (fun x => o0 x.1 ∧ o1 x.2.1 ∧ o2 x.2.2.1 ∧ o3 x.2.2.2.1 ∧ o4 x.2.2.2.2.1 ∧ o5 x.2.2.2.2.2.1 ∧ o6 x.2.2.2.2.2.2) (n + 1) := by
 constructor
 intro H e w base spare held cs x hx
 obtain ⟨xs, n', hn', rfl, hl, hxs, hat⟩ := DataW.trod_struct h hx
 obtain rfl : n' = n := by omega
 have hxs' : xs.length = 7 := hxs
 have g0 := hat 0 f0 rfl
 have g1 := hat 1 f1 rfl
 have g2 := hat 2 f2 rfl
 have g3 := hat 3 f3 rfl
 have g4 := hat 4 f4 rfl
 have g5 := hat 5 f5 rfl
 have g6 := hat 6 f6 rfl
 have e0 : xs[0]? = some (xs[0]'(by omega)) := List.getElem?_eq_getElem (by omega)
 have e1 : xs[1]? = some (xs[1]'(by omega)) := List.getElem?_eq_getElem (by omega)
 have e2 : xs[2]? = some (xs[2]'(by omega)) := List.getElem?_eq_getElem (by omega)
 have e3 : xs[3]? = some (xs[3]'(by omega)) := List.getElem?_eq_getElem (by omega)
 have e4 : xs[4]? = some (xs[4]'(by omega)) := List.getElem?_eq_getElem (by omega)
 have e5 : xs[5]? = some (xs[5]'(by omega)) := List.getElem?_eq_getElem (by omega)
 have e6 : xs[6]? = some (xs[6]'(by omega)) := List.getElem?_eq_getElem (by omega)
 rw [e0, h0, t0] at g0
 rw [e1, h1, t1] at g1
 rw [e2, h2, t2] at g2
 rw [e3, h3, t3] at g3
 rw [e4, h4, t4] at g4
 rw [e5, h5, t5] at g5
 rw [e6, h6, t6] at g6
 obtain ⟨y0, k0, m0⟩ := r0.sound e w base spare held _ _ g0
 obtain ⟨y1, k1, m1⟩ := r1.sound e w base spare held _ _ g1
 obtain ⟨y2, k2, m2⟩ := r2.sound e w base spare held _ _ g2
 obtain ⟨y3, k3, m3⟩ := r3.sound e w base spare held _ _ g3
 obtain ⟨y4, k4, m4⟩ := r4.sound e w base spare held _ _ g4
 obtain ⟨y5, k5, m5⟩ := r5.sound e w base spare held _ _ g5
 obtain ⟨y6, k6, m6⟩ := r6.sound e w base spare held _ _ g6
 refine ⟨(y0, y1, y2, y3, y4, y5, y6), ?_, fun hli => ?_⟩
 rotate_left
 ·unfold Light at hli m0 m1 m2 m3 m4 m5 m6
  rw [list7 hxs'] at hli
  simp only [List.map_cons, List.map_nil, DataW.weights, h, DataW.weightsEach, t0, t1, t2, t3, t4, t5, t6, List.all_append, Bool.and_eq_true] at hli
  exact ⟨m0 hli.1, m1 hli.2.1, m2 hli.2.2.1, m3 hli.2.2.2.1, m4 hli.2.2.2.2.1, m5 hli.2.2.2.2.2.1, m6 hli.2.2.2.2.2.2.1⟩
 have hcs : cs = (cs.drop (0)).take (P.cellsOf T0) ++ ((cs.drop (P.cellsOf T0)).take (P.cellsOf T1) ++ ((cs.drop (P.cellsOf T0 + P.cellsOf T1)).take (P.cellsOf T2) ++ ((cs.drop (P.cellsOf T0 + P.cellsOf T1 + P.cellsOf T2)).take (P.cellsOf T3) ++ ((cs.drop (P.cellsOf T0 + P.cellsOf T1 + P.cellsOf T2 + P.cellsOf T3)).take (P.cellsOf T4) ++ ((cs.drop (P.cellsOf T0 + P.cellsOf T1 + P.cellsOf T2 + P.cellsOf T3 + P.cellsOf T4)).take (P.cellsOf T5) ++ ((cs.drop (P.cellsOf T0 + P.cellsOf T1 + P.cellsOf T2 + P.cellsOf T3 + P.cellsOf T4 + P.cellsOf T5)).take (P.cellsOf T6))))))) := by
  have : (cs.drop (P.cellsOf T0 + P.cellsOf T1 + P.cellsOf T2 + P.cellsOf T3 + P.cellsOf T4 + P.cellsOf T5)).take (P.cellsOf T6) = cs.drop (P.cellsOf T0 + P.cellsOf T1 + P.cellsOf T2 + P.cellsOf T3 + P.cellsOf T4 + P.cellsOf T5) := List.take_of_length_le (by simp; omega)
  rw [this]
  have e5 := List.take_append_drop (P.cellsOf T5) (cs.drop (P.cellsOf T0 + P.cellsOf T1 + P.cellsOf T2 + P.cellsOf T3 + P.cellsOf T4))
  have e4 := List.take_append_drop (P.cellsOf T4) (cs.drop (P.cellsOf T0 + P.cellsOf T1 + P.cellsOf T2 + P.cellsOf T3))
  have e3 := List.take_append_drop (P.cellsOf T3) (cs.drop (P.cellsOf T0 + P.cellsOf T1 + P.cellsOf T2))
  have e2 := List.take_append_drop (P.cellsOf T2) (cs.drop (P.cellsOf T0 + P.cellsOf T1))
  have e1 := List.take_append_drop (P.cellsOf T1) (cs.drop (P.cellsOf T0))
  rw [List.drop_drop] at e5 e4 e3 e2 e1
  rw [e5, e4, e3, e2, e1, List.drop_zero, List.take_append_drop]
 rw [hcs]
 exact k0.append (k1.append (k2.append (k3.append (k4.append (k5.append (k6))))))
end Go.AM
namespace Go.AM
open Go Go.Proofs Go.ChangeShapes
def rdStr : Rdr Tryz.prog 9 ByteArray := Rdr.str Tryz.underlying9 (by kernel_rfl)
def rdBool : Rdr Tryz.prog 4 Bool := Rdr.bool Tryz.underlying4 (by kernel_rfl)
def Ru.rowD (r : Ru) : List D := [.raw (.string r.name), ints r.lg.nodes, AM.edges r.lg.edges, slots r.lsl, .raw (.int .i64 r.lv), tests r.lte, ints r.rg.nodes, AM.edges r.rg.edges, slots r.rsl, .raw (.int .i64 r.rv), tests r.rte,
 ints r.k.nodes, ints r.k.edges, ints r.i.nodes, ints r.i.edges, .raw (.bool r.inj)] ++ r.c.cells
end Go.AM
namespace Go.AM
open Go Go.Proofs Go.ChangeShapes
def fewNm (s : ByteArray) : Bool := decide (s.size ≤ 40)
def fewAt (a : At) : Bool := if 40 < a.name.size then false else if 25 < a.names.length then false else allP fewNm a.names
def sumOwn (t : Ty) : Nat → Nat
 | 0 => 0
 | i + 1 => sumOwn t i + (t.nd i).own.length
def fewNd (t : Ty) (i : Nat) : Int := if 30 < sumOwn t (i + 1) then 1 else if 40 < (t.nd i).name.size then 1 else if allP fewAt (t.nd i).own = true then 0 else 1
def fewEd (e : ET) : Bool := decide (e.name.size ≤ 40)
def fewT (t : Ty) : Bool := if 20 < t.nodes.length then false else if 30 < t.edges.length then false else if firstE (fewNd t) t.nodes.length ≠ 0 then false else allP fewEd t.edges
structure At.Big (a : At) : Prop where
 n : a.name.size ≤ maxLen
 l : a.names.length ≤ bigN
 s : ∀ x ∈ a.names, x.size ≤ maxLen
structure NT.Big (x : NT) : Prop where
 n : x.name.size ≤ maxLen
 l : x.own.length ≤ bigN
 a : ∀ y ∈ x.own, y.Big
structure Ty.Big (t : Ty) : Prop where
 n : t.nodes.length ≤ bigN
 e : t.edges.length ≤ bigN
 nn : ∀ x ∈ t.nodes, x.Big
 en : ∀ x ∈ t.edges, x.name.size ≤ maxLen
theorem allP_iff {α : Type} {p : α → Bool} {l : List α} : allP p l = true ↔ ∀ x ∈ l, p x = true := by simp [allP]
theorem fewAt_fit {a : At} (h : fewAt a = true) : a.Fit := by
 unfold fewAt at h
 split at h
 ·cases h
 ·split at h
  ·cases h
  ·rw [allP_iff] at h
   exact ⟨by omega, ⟨by omega, fun x hx => by have := h x hx; simp only [fewNm, decide_eq_true_eq] at this; omega⟩⟩
theorem fewNd_zero {t : Ty} {i : Nat} (h : fewNd t i = 0) : sumOwn t (i + 1) ≤ 30 ∧ (t.nd i).name.size ≤ 40 ∧ ∀ x ∈ (t.nd i).own, x.Fit := by
 unfold fewNd at h
 split at h
 ·cases h
 ·split at h
  ·cases h
  ·split at h
   ·rename_i h1 h2 h3
    rw [allP_iff] at h3
    exact ⟨by omega, by omega, fun x hx => fewAt_fit (h3 x hx)⟩
   ·cases h
theorem fewT_fit {t : Ty} (h : fewT t = true) : t.Fit := by
 unfold fewT at h
 split at h
 ·cases h
 ·split at h
  ·cases h
  ·split at h
   ·cases h
   ·rename_i h1 h2 h3
    have hz := firstE_allZ _ (Decidable.not_not.1 h3)
    rw [allP_iff] at h
    have key : ∀ x ∈ t.nodes, ∃ i, i < t.nodes.length ∧ t.nd i = x := fun x hx => by
     obtain ⟨i, hi, he⟩ := List.mem_iff_getElem.1 hx
     exact ⟨i, hi, by rw [nd_at hi, he]⟩
    refine ⟨by omega, by omega, fun x hx => ?_, fun x hx => ?_, fun x hx => ?_⟩
    ·obtain ⟨i, hi, he⟩ := key x hx
     have := (fewNd_zero (hz i hi)).2.1
     rw [he] at this
     omega
    ·have := h x hx
     simp only [fewEd, decide_eq_true_eq] at this
     omega
    ·obtain ⟨i, hi, he⟩ := key x hx
     have h4 := fewNd_zero (hz i hi)
     rw [he] at h4
     refine ⟨?_, h4.2.2⟩
     have := h4.1
     simp only [sumOwn, he] at this
     omega
theorem fewNd_eq {t : Ty} {i : Nat} (h : i < t.nodes.length) : fewNd t i = if 30 < sumOwn t i + t.nodes[i].own.length then 1 else if 40 < t.nodes[i].name.size then 1 else if allP fewAt t.nodes[i].own = true then 0 else 1 := by rw [fewNd, sumOwn, nd_at h]
abbrev fwB (t : Ty) : Nat × List (List AV) := (1, [[.d (nts t.nodes), .d (ets t.edges)]])
def stFw1 (t : Ty) (nb : Nat) (box : Bxs) (tok : Tks) (nt : Nat) (i : Nat) : AState := ⟨tl [(4, I i), (3, I (sumOwn t i)), (1, .ptr (nb + 1) 0 0)], lb nb box [fwB t], tok, nt⟩
def stFw2 (t : Ty) (i n : Nat) (nb : Nat) (box : Bxs) (tok : Tks) (nt : Nat) (k : Nat) : AState := ⟨tl [(5, I k), (4, I i), (3, I n), (1, .ptr (nb + 1) 0 0)], lb nb box [fwB t], tok, nt⟩
def stFw3 (t : Ty) (i n k : Nat) (a : At) (nb : Nat) (box : Bxs) (tok : Tks) (nt : Nat) (j : Nat) : AState := ⟨tl [(7, I j), (6, .ptr (nb + 6) 0 0), (5, I k), (4, I i), (3, I n), (1, .ptr (nb + 1) 0 0)], lb nb box [(6, [a.row]), fwB t], tok, nt⟩
def stFw4 (t : Ty) (nb : Nat) (box : Bxs) (tok : Tks) (nt : Nat) (i : Nat) : AState := ⟨tl [(8, I i), (1, .ptr (nb + 1) 0 0)], lb nb box [fwB t], tok, nt⟩
theorem tyFew_c (t : Ty) (hb : t.Big) (tok : Tks) (nt : Nat) : DCall Tryz.prog 13 [t.av] tok nt (B (fewT t)) tok nt := by
 intro box nb
 have hbn := hb.n
 have hbe := hb.e
 rw [bigN_eq] at hbn hbe
 obtain ⟨N, hN⟩ : ∃ N, fewT t = N := ⟨_, rfl⟩
 rw [hN]
 unfold fewT at hN
 by_cases e1 : 20 < t.nodes.length
 ·have e1' : (20 : Int) < t.nodes.length := by omega
  rw [if_pos e1] at hN
  refine sB Tryz.func13 Tryz.ntmps13 ?_
  intro hbox htok
  simp only at hbox htok
  apply AL.start
  try (simp [e1, e1'])
  repeat (refine sR ?_; simp [e1, e1'])
  refine sC ?_
  simp [e1, e1']
  try (simp)
  repeat (refine sR ?_; simp)
  refine sT ?_
  try simp only [AU]
  refine ⟨by simp, sF hbox htok (fun _ h => h) (Nat.le_refl _) ?_⟩
  simp [packA, ← hN]
 ·have e1' : ¬ (20 : Int) < t.nodes.length := by omega
  rw [if_neg e1] at hN
  by_cases e2 : 30 < t.edges.length
  ·have e2' : (30 : Int) < t.edges.length := by omega
   rw [if_pos e2] at hN
   refine sB Tryz.func13 Tryz.ntmps13 ?_
   intro hbox htok
   simp only at hbox htok
   apply AL.start
   try (simp [e1, e1', e2, e2'])
   repeat (refine sR ?_; simp [e1, e1', e2, e2'])
   refine sC ?_
   simp [e1, e1', e2, e2']
   try (simp)
   repeat (refine sR ?_; simp)
   refine sT ?_
   try simp only [AU]
   refine ⟨by simp, sF hbox htok (fun _ h => h) (Nat.le_refl _) ?_⟩
   simp [packA, ← hN]
  ·have e2' : ¬ (30 : Int) < t.edges.length := by omega
   rw [if_neg e2] at hN
   refine sB Tryz.func13 Tryz.ntmps13 ?_
   intro hbox htok
   simp only at hbox htok
   apply AL.start
   try (simp [e1, e1', e2, e2'])
   repeat (refine sR ?_; simp [e1, e1', e2, e2'])
   refine sC ?_
   simp [e1, e1', e2, e2']
   try (simp)
   repeat (refine sR ?_; simp)
   refine sN ?_
   refine AL.loopT (stFw1 t nb box tok nt) (fun i => i ≤ t.nodes.length ∧ sumOwn t i ≤ 30 ∧ firstE (fewNd t) i = 0) (fun i => t.nodes.length - i) 0 ⟨Nat.zero_le _, Nat.zero_le _, rfl⟩ (Weaks.mk (Nat.le_refl _) rfl (by simp [ToL, lk, lb_at, sumOwn]) (by simp [BoxL, lk])) ?_
   rintro i S' ⟨hi, hsum, hok⟩ hS
   simp only [stFw1] at hS
   subst hS
   have hw := sW (i := i) (by omega)
   try (simp)
   repeat (refine sR ?_; simp)
   refine sC ?_
   simp
   refine ⟨fun hlt => ?_, fun hge => ?_⟩
   ·have hR : fewNd t i ≠ 0 → firstE (fewNd t) t.nodes.length = fewNd t i := fun h0 => firstE_stop hok h0 _ hlt
    have hnx : fewNd t i = 0 → firstE (fewNd t) (i + 1) = 0 := fun h0 => by simp only [firstE, hok, h0, ↓reduceIte]
    have hd := fewNd_eq hlt
    have hsn : sumOwn t (i + 1) = sumOwn t i + t.nodes[i].own.length := by rw [sumOwn, nd_at hlt]
    have hnb := hb.nn _ (List.getElem_mem hlt)
    have hol := hnb.l
    rw [bigN_eq] at hol
    have hws : IntKind.i64.wrap ((sumOwn t i : Nat) + (t.nodes[i].own.length : Nat) : Int) = ((sumOwn t i + t.nodes[i].own.length : Nat) : Int) := by rw [wrap_in (by omega) (by omega)]; rfl
    by_cases c1 : 30 < sumOwn t i + t.nodes[i].own.length
    ·have c1' : (30 : Int) < (sumOwn t i : Int) + (t.nodes[i].own.length : Int) := by omega
     rw [if_pos c1] at hd
     rw [if_pos (by rw [hR (by rw [hd]; decide), hd]; decide)] at hN
     try (simp [hlt, hws, c1, c1'])
     repeat (refine sR ?_; simp [hlt, hws, c1, c1'])
     refine sC ?_
     simp [c1, c1']
     try (simp)
     repeat (refine sR ?_; simp)
     refine sT ?_
     try simp only [AU]
     refine ⟨by simp, sF hbox htok (fun _ h => h) (Nat.le_refl _) ?_⟩
     simp [packA, ← hN]
    ·have c1' : ¬ (30 : Int) < ((sumOwn t i + t.nodes[i].own.length : Nat) : Int) := by omega
     rw [if_neg c1] at hd
     by_cases c2 : 40 < t.nodes[i].name.size
     ·have c2' : (40 : Int) < t.nodes[i].name.size := by omega
      rw [if_pos c2] at hd
      rw [if_pos (by rw [hR (by rw [hd]; decide), hd]; decide)] at hN
      have c1' : ¬ (30 : Int) < (sumOwn t i : Int) + (t.nodes[i].own.length : Int) := by omega
      try (simp [hlt, hws, c1, c1', c2, c2'])
      repeat (refine sR ?_; simp [hlt, hws, c1, c1', c2, c2'])
      refine sC ?_
      simp [c1, c1', c2, c2']
      try (simp)
      repeat (refine sR ?_; simp)
      refine sT ?_
      try simp only [AU]
      refine ⟨by simp, sF hbox htok (fun _ h => h) (Nat.le_refl _) ?_⟩
      simp [packA, ← hN]
     ·have c2' : ¬ (40 : Int) < t.nodes[i].name.size := by omega
      rw [if_neg c2] at hd
      obtain ⟨n, hn⟩ : ∃ n : Nat, sumOwn t i + t.nodes[i].own.length = n := ⟨_, rfl⟩
      rw [hn] at hws c1' c1 hsn
      try (simp [hlt, hws, c1, c1', c2, c2'])
      repeat (refine sR ?_; simp [hlt, hws, c1, c1', c2, c2'])
      refine sC ?_
      simp [c1, c1', c2, c2']
      try (simp)
      repeat (refine sR ?_; simp)
      refine sN ?_
      refine AL.loopT (stFw2 t i n nb box tok nt) (fun k => k ≤ t.nodes[i].own.length ∧ allP fewAt (t.nodes[i].own.take k) = true) (fun k => t.nodes[i].own.length - k) 0 ⟨Nat.zero_le _, rfl⟩ (Weaks.mk (Nat.le_refl _) rfl (by simp [ToL, lk, lb_at]) (by simp [BoxL, lk])) ?_
      rintro k S' ⟨hk, hall⟩ hS
      simp only [stFw2] at hS
      subst hS
      have hwk := sW (i := k) (by omega)
      try (simp [hlt])
      repeat (refine sR ?_; simp [hlt])
      refine sC ?_
      simp
      refine ⟨fun hlk => ?_, fun hgek => ?_⟩
      ·have hno := fun h => all_no (p := fewAt) hlk h
       have hyes := fun h => all_more (p := fewAt) hlk hall h
       have hba := hnb.a _ (List.getElem_mem hlk)
       have hbl := hba.l
       rw [bigN_eq] at hbl
       have hda : fewAt t.nodes[i].own[k] = if 40 < t.nodes[i].own[k].name.size then false else if 25 < t.nodes[i].own[k].names.length then false else allP fewNm t.nodes[i].own[k].names := rfl
       have hbad : fewAt t.nodes[i].own[k] = false → N = false := fun h => by
        rw [hno h, if_neg (by simp)] at hd
        rw [if_pos (by rw [hR (by rw [hd]; decide), hd]; decide)] at hN
        exact hN.symm
       by_cases c3 : 40 < t.nodes[i].own[k].name.size
       ·have c3' : (40 : Int) < t.nodes[i].own[k].name.size := by omega
        rw [if_pos c3] at hda
        try (simp [hlt, hlk, c3, c3'])
        repeat (refine sR ?_; simp [hlt, hlk, c3, c3'])
        refine sC ?_
        simp [c3, c3']
        try (simp)
        repeat (refine sR ?_; simp)
        refine sT ?_
        try simp only [AU]
        refine ⟨by simp, sF hbox htok (fun _ h => h) (Nat.le_refl _) ?_⟩
        simp [packA, hbad hda]
       ·have c3' : ¬ (40 : Int) < t.nodes[i].own[k].name.size := by omega
        rw [if_neg c3] at hda
        by_cases c4 : 25 < t.nodes[i].own[k].names.length
        ·have c4' : (25 : Int) < t.nodes[i].own[k].names.length := by omega
         rw [if_pos c4] at hda
         try (simp [hlt, hlk, c3, c3', c4, c4'])
         repeat (refine sR ?_; simp [hlt, hlk, c3, c3', c4, c4'])
         refine sC ?_
         simp [c3, c3', c4, c4']
         try (simp)
         repeat (refine sR ?_; simp)
         refine sT ?_
         try simp only [AU]
         refine ⟨by simp, sF hbox htok (fun _ h => h) (Nat.le_refl _) ?_⟩
         simp [packA, hbad hda]
        ·have c4' : ¬ (25 : Int) < t.nodes[i].own[k].names.length := by omega
         rw [if_neg c4] at hda
         try (simp [hlt, hlk, c3, c3', c4, c4'])
         repeat (refine sR ?_; simp [hlt, hlk, c3, c3', c4, c4'])
         refine sC ?_
         simp [c3, c3', c4, c4']
         try (simp)
         repeat (refine sR ?_; simp)
         refine sN ?_
         refine AL.loopT (stFw3 t i n k t.nodes[i].own[k] nb box tok nt) (fun j => j ≤ t.nodes[i].own[k].names.length ∧ allP fewNm (t.nodes[i].own[k].names.take j) = true) (fun j => t.nodes[i].own[k].names.length - j) 0 ⟨Nat.zero_le _, rfl⟩ (Weaks.mk (Nat.le_refl _) rfl (by simp [ToL, lk, lb_at]) (by simp [BoxL, lk])) ?_
         rintro j S' ⟨hj, hnall⟩ hS
         simp only [stFw3] at hS
         subst hS
         have hwj := sW (i := j) (by omega)
         try (simp)
         repeat (refine sR ?_; simp)
         refine sC ?_
         simp
         refine ⟨fun hlj => ?_, fun hgej => ?_⟩
         ·have hnon := fun h => all_no (p := fewNm) hlj h
          have hyesn := fun h => all_more (p := fewNm) hlj hnall h
          by_cases c5 : 40 < t.nodes[i].own[k].names[j].size
          ·have c5' : (40 : Int) < t.nodes[i].own[k].names[j].size := by omega
           rw [hnon (by simp only [fewNm, decide_eq_false_iff_not]; omega)] at hda
           try (simp [hlj, c5, c5'])
           repeat (refine sR ?_; simp [hlj, c5, c5'])
           refine sC ?_
           simp [c5, c5']
           try (simp)
           repeat (refine sR ?_; simp)
           refine sT ?_
           try simp only [AU]
           refine ⟨by simp, sF hbox htok (fun _ h => h) (Nat.le_refl _) ?_⟩
           simp [packA, hbad hda]
          ·have c5' : ¬ (40 : Int) < t.nodes[i].own[k].names[j].size := by omega
           try (simp [hlj, c5, c5'])
           repeat (refine sR ?_; simp [hlj, c5, c5'])
           refine sC ?_
           simp [c5, c5']
           try (simp [hwj])
           repeat (refine sR ?_; simp [hwj])
           refine sE ?_
           exact ⟨j + 1, ⟨hlj, hyesn (by simp only [fewNm, decide_eq_true_eq]; omega)⟩, by omega, Weaks.mk (Nat.le_refl _) rfl (by simp [ToL, lk, lb_at]) (by simp [BoxL, lk])⟩
         ·refine sX ?_
          simp only [AU, ↓reduceIte]
          have : j = t.nodes[i].own[k].names.length := by omega
          subst this
          rw [List.take_length] at hnall
          rw [hnall] at hda
          try (simp [hwk])
          repeat (refine sR ?_; simp [hwk])
          refine sE ?_
          exact ⟨k + 1, ⟨hlk, hyes hda⟩, by omega, Weaks.mk (Nat.le_refl _) rfl (by simp [ToL, lk, lb_at]) (by simp [BoxL, lk])⟩
      ·refine sX ?_
       simp only [AU, ↓reduceIte]
       have : k = t.nodes[i].own.length := by omega
       subst this
       rw [List.take_length] at hall
       rw [if_pos hall] at hd
       try (simp [hw])
       repeat (refine sR ?_; simp [hw])
       refine sE ?_
       exact ⟨i + 1, ⟨hlt, by omega, hnx hd⟩, by omega, Weaks.mk (Nat.le_refl _) rfl (by simp [ToL, lk, lb_at, hsn]) (by simp [BoxL, lk])⟩
   ·refine sX ?_
    simp only [AU, ↓reduceIte]
    have : i = t.nodes.length := by omega
    subst this
    rw [if_neg (by simp [hok])] at hN
    try (simp)
    repeat (refine sR ?_; simp)
    refine sN ?_
    refine AL.loopT (stFw4 t nb box tok nt) (fun i => i ≤ t.edges.length ∧ allP fewEd (t.edges.take i) = true) (fun i => t.edges.length - i) 0 ⟨Nat.zero_le _, rfl⟩ (Weaks.mk (Nat.le_refl _) rfl (by simp [ToL, lk, lb_at]) (by simp [BoxL, lk])) ?_
    rintro i S' ⟨hi, hall⟩ hS
    simp only [stFw4] at hS
    subst hS
    have hw := sW (i := i) (by omega)
    try (simp)
    repeat (refine sR ?_; simp)
    refine sC ?_
    simp
    refine ⟨fun hlt => ?_, fun hge => ?_⟩
    ·have hno := fun h => all_no (p := fewEd) hlt h
     have hyes := fun h => all_more (p := fewEd) hlt hall h
     by_cases c5 : 40 < t.edges[i].name.size
     ·have c5' : (40 : Int) < t.edges[i].name.size := by omega
      rw [hno (by simp only [fewEd, decide_eq_false_iff_not]; omega)] at hN
      try (simp [hlt, c5, c5'])
      repeat (refine sR ?_; simp [hlt, c5, c5'])
      refine sC ?_
      simp [c5, c5']
      try (simp)
      repeat (refine sR ?_; simp)
      refine sT ?_
      try simp only [AU]
      refine ⟨by simp, sF hbox htok (fun _ h => h) (Nat.le_refl _) ?_⟩
      simp [packA, ← hN]
     ·have c5' : ¬ (40 : Int) < t.edges[i].name.size := by omega
      try (simp [hlt, c5, c5'])
      repeat (refine sR ?_; simp [hlt, c5, c5'])
      refine sC ?_
      simp [c5, c5']
      try (simp [hw])
      repeat (refine sR ?_; simp [hw])
      refine sE ?_
      exact ⟨i + 1, ⟨hlt, hyes (by simp only [fewEd, decide_eq_true_eq]; omega)⟩, by omega, Weaks.mk (Nat.le_refl _) rfl (by simp [ToL, lk, lb_at]) (by simp [BoxL, lk])⟩
    ·refine sX ?_
     simp only [AU, ↓reduceIte]
     have : i = t.edges.length := by omega
     subst this
     rw [List.take_length] at hall
     rw [hall] at hN
     try (simp)
     repeat (refine sR ?_; simp)
     refine sT ?_
     try simp only [AU]
     refine ⟨by simp, sF hbox htok (fun _ h => h) (Nat.le_refl _) ?_⟩
     simp [packA, ← hN]
end Go.AM
namespace Go.AM
open Go Go.Proofs Go.ChangeShapes
structure Xt.Big (x : Xt) : Prop where
 mn : x.m.nodes.length ≤ bigN
 me : x.m.edges.length ≤ bigN
 g : x.g.Big
structure Co.Big (c : Co) : Prop where
 name : c.name.size ≤ maxLen
 g : c.g.Big
 n : c.exts.length ≤ bigN
 exts : ∀ x ∈ c.exts, x.Big
theorem by_xt : Tryz.prog.bytesOf 146 = 96 := by kernel_rfl
def rdXt0 : Rdr Tryz.prog 146 ((List Int × List Int) × Gr) := Rdr.struct2 rdMorph0 rdGraphB Tryz.underlying146 rfl rfl rfl (by kernel_rfl) (by kernel_rfl)
def rdXt : Rdr Tryz.prog 146 Xt := rdXt0.map (fun x => ⟨⟨x.1.1, x.1.2⟩, x.2⟩) Xt.cells Xt.Big (fun _ => rfl) (fun x h => ⟨rdInts_ok h.1.1, rdInts_ok h.1.2, h.2⟩) (fun _ => by kernel_rfl)
def rdXts : Rdr Tryz.prog 30 (List Xt) := rdXt.sliceN 4 Tryz.underlying30 (by kernel_rfl) (by kernel_rfl)
theorem rdXts_ok {l : List Xt} (h : rdXts.ok l) : l.length ≤ bigN ∧ ∀ x ∈ l, x.Big := by
 have h2 : l.length * Tryz.prog.bytesOf 146 ≤ reachBytes := h.2
 rw [by_xt] at h2
 have : reachBytes = 140737488351232 := rfl
 exact ⟨by rw [bigN_eq]; omega, h.1⟩
abbrev CoT := ByteArray × Int × Gr × List Xt
theorem rdCo_n (n : Nat) : RdF Tryz.prog 32 (fun x : CoT => rdStr.enc x.1 ++ (rdInt.enc x.2.1 ++ (rdGraphB.enc x.2.2.1 ++ rdXts.enc x.2.2.2))) (fun x => rdStr.ok x.1 ∧ rdInt.ok x.2.1 ∧ rdGraphB.ok x.2.2.1 ∧ rdXts.ok x.2.2.2) n := by
 cases n with
 | zero => exact .zero
 | succ n => exact RdF.struct4 (rdStr.f n) (rdInt.f n) (rdGraphB.f n) (rdXts.f n) Tryz.underlying32 rfl rfl rfl rfl rfl (by kernel_rfl) (by kernel_rfl) (by kernel_rfl) (by kernel_rfl)
def rdCo0 : Rdr Tryz.prog 32 CoT := Rdr.ofF _ _ (fun x => by simp [rdStr.len, rdInt.len, rdGraphB.len, rdXts.len]; kernel_rfl) rdCo_n
def Co.rowD (c : Co) : List D := [.raw (.string c.name), .raw (.int .i64 c.kind), ints c.g.nodes, AM.edges c.g.edges, xts c.exts]
def rdCo : Rdr Tryz.prog 32 Co := rdCo0.map (fun x => ⟨x.1, x.2.1, x.2.2.1, x.2.2.2⟩) Co.rowD Co.Big (fun _ => rfl) (fun x h => ⟨h.1, h.2.2.1, (rdXts_ok h.2.2.2).1, (rdXts_ok h.2.2.2).2⟩) (fun _ => by kernel_rfl)
set_option maxRecDepth 100000 in
theorem arg_constraint {ps : Array TypeId} {args : Array Value} {W : World} {base base' : Nat} {sp : Nat → Bool} {held : Bool} {H : Type} {enc : TypeId × Value → H} (hval : ∀ (j : Nat) t v, ps[j]? = some t → args[j]? = some v → Value.okWide Tryz.prog W .any base t v)
  (j : Nat) (v : Value) (hp : ps[j]? = some 32) (ha : args[j]? = some v) {d : DataW H} {p : List MemPlace} (h : DataW.Trod enc Tryz.prog W base' sp held 32 v d p) (hli : Light Tryz.prog 32 d) : ∃ c : Co, c.Big ∧ RV G0 W c.av v := by
 refine Exists.elim (arg_agg hval j 32 v hp ha rdCo aggT_32 h hli) fun c hc => ⟨c, hc.1, ?_⟩
 have h2 : RV G0 W (.agg (c.rowD.map .d)) v := hc.2
 exact h2
end Go.AM
namespace Go.AM
open Go Go.Proofs
def fewX (x : Xt) : Bool := if fewG x.g = true then fewM x.m 140 else false
def fewC (c : Co) : Bool := if 60 < c.name.size then false else if 10 < c.exts.length then false else if fewG c.g = true then allP fewX c.exts else false
theorem allP_mem {α : Type} {p : α → Bool} {l : List α} (h : allP p l = true) : ∀ x ∈ l, p x = true := List.all_eq_true.1 h
theorem fewC_fit {c : Co} (h : fewC c = true) : c.Fit ∧ c.exts.length ≤ 10 := by
 unfold fewC at h
 split at h
 ·cases h
 rename_i h1
 split at h
 ·cases h
 rename_i h2
 split at h
 ·rename_i h3
  refine ⟨⟨by omega, fewG_fit h3, by omega, fun x hx => ?_⟩, by omega⟩
  have := allP_mem h x hx
  unfold fewX at this
  split at this
  ·rename_i h4; exact ⟨fewM_fit2 this, fewG_fit h4⟩
  ·cases this
 ·cases h
def stFc (c : Co) (nb : Nat) (box : Bxs) (tok : Tks) (nt : Nat) (i : Nat) : AState :=
 ⟨tl [(3, I i), (1, .ptr (nb + 1) 0 0)], lb nb box [(1, [c.row])], tok, nt⟩
theorem few42_c (c : Co) (hc : c.Big) (tok : Tks) (nt : Nat) : DCall Tryz.prog 14 [c.av] tok nt (B (fewC c)) tok nt := by
 intro box nb
 have hn := hc.n
 rw [bigN_eq] at hn
 have hnm := hc.name
 have h1 := few05_c c.g
 obtain ⟨N, hN⟩ : ∃ N, fewC c = N := ⟨_, rfl⟩
 rw [hN]
 unfold fewC at hN
 by_cases e1 : 60 < c.name.size
 ·have e1' : (60 : Int) < c.name.size := by omega
  rw [if_pos e1] at hN
  refine sB Tryz.func14 Tryz.ntmps14 ?_
  intro hbox htok
  simp only at hbox htok
  apply AL.start
  try (simp [e1, e1'])
  repeat (first | (refine sR ?_; simp [e1, e1']) | (refine sC ?_; simp [e1, e1']) | (refine sX ?_; simp only [AU, ↓reduceIte]))
  refine sT ?_
  try simp only [AU]
  refine ⟨by simp, sF hbox htok (fun _ h => h) (Nat.le_refl _) ?_⟩
  simp [packA, ← hN]
 ·have e1' : ¬ (60 : Int) < c.name.size := by omega
  rw [if_neg e1] at hN
  by_cases e2 : 10 < c.exts.length
  ·have e2' : (10 : Int) < c.exts.length := by omega
   rw [if_pos e2] at hN
   refine sB Tryz.func14 Tryz.ntmps14 ?_
   intro hbox htok
   simp only at hbox htok
   apply AL.start
   try (simp [e1, e1', e2, e2'])
   repeat (first | (refine sR ?_; simp [e1, e1', e2, e2']) | (refine sC ?_; simp [e1, e1', e2, e2']) | (refine sX ?_; simp only [AU, ↓reduceIte]))
   refine sT ?_
   try simp only [AU]
   refine ⟨by simp, sF hbox htok (fun _ h => h) (Nat.le_refl _) ?_⟩
   simp [packA, ← hN]
  ·have e2' : ¬ (10 : Int) < c.exts.length := by omega
   rw [if_neg e2] at hN
   refine sB Tryz.func14 Tryz.ntmps14 ?_
   intro hbox htok
   simp only at hbox htok
   apply AL.start
   try (simp [e1, e1', e2, e2'])
   repeat (first | (refine sR ?_; simp [e1, e1', e2, e2']) | (refine sC ?_; simp [e1, e1', e2, e2']) | (refine sX ?_; simp only [AU, ↓reduceIte]))
   refine Stop.of_d (h1 _ _) ?_
   simp
   cases e3 : fewG c.g
   ·rw [e3, if_neg (by simp)] at hN
    try (simp)
    repeat (first | (refine sR ?_; simp) | (refine sC ?_; simp) | (refine sX ?_; simp only [AU, ↓reduceIte]))
    refine sT ?_
    try simp only [AU]
    refine ⟨by simp, sF hbox htok (fun _ h => h) (Nat.le_refl _) ?_⟩
    simp [packA, ← hN]
   ·rw [e3, if_pos rfl] at hN
    try (simp)
    repeat (first | (refine sR ?_; simp) | (refine sC ?_; simp) | (refine sX ?_; simp only [AU, ↓reduceIte]))
    refine sN ?_
    refine AL.loopT (stFc c nb box tok nt) (fun i => i ≤ c.exts.length ∧ allP fewX (c.exts.take i) = true) (fun i => c.exts.length - i) 0 ⟨Nat.zero_le _, by simp [allP]⟩ (Weaks.mk (Nat.le_refl _) rfl (by simp [ToL, lk, lb_at]) (by simp [BoxL, lk])) ?_
    rintro i S' ⟨hi, hok⟩ hS
    simp only [stFc] at hS
    subst hS
    have hw := sW (i := i) (by omega)
    try (simp)
    repeat (refine sR ?_; simp)
    refine sC ?_
    simp
    refine ⟨fun hlt => ?_, fun hge => ?_⟩
    ·have hno := fun h => all_no (p := fewX) hlt h
     have hyes := fun h => all_more (p := fewX) hlt hok h
     have hb := hc.exts _ (List.getElem_mem hlt)
     have b1 := hb.mn
     have b2 := hb.me
     rw [bigN_eq] at b1 b2
     have c1 := few05_c c.exts[i].g
     have c2 := few06_c c.exts[i].m 140 (by omega) (by omega)
     have hd : fewX c.exts[i] = if fewG c.exts[i].g = true then fewM c.exts[i].m 140 else false := rfl
     try (simp [hlt])
     repeat (refine sR ?_; simp [hlt])
     refine Stop.of_d (c1 _ _) ?_
     simp
     cases e4 : fewG c.exts[i].g
     ·rw [e4, if_neg (by simp)] at hd
      rw [hno hd] at hN
      try (simp)
      repeat (first | (refine sR ?_; simp) | (refine sC ?_; simp) | (refine sX ?_; simp only [AU, ↓reduceIte]))
      refine sT ?_
      try simp only [AU]
      refine ⟨by simp, sF hbox htok (fun _ h => h) (Nat.le_refl _) ?_⟩
      simp [packA, ← hN]
     ·rw [e4, if_pos rfl] at hd
      try (simp [hlt])
      repeat (first | (refine sR ?_; simp [hlt]) | (refine sC ?_; simp [hlt]) | (refine sX ?_; simp only [AU, ↓reduceIte]))
      refine Stop.of_d (c2 _ _) ?_
      simp
      cases e5 : fewM c.exts[i].m 140
      ·rw [e5] at hd
       rw [hno hd] at hN
       try (simp)
       repeat (first | (refine sR ?_; simp) | (refine sC ?_; simp) | (refine sX ?_; simp only [AU, ↓reduceIte]))
       refine sT ?_
       try simp only [AU]
       refine ⟨by simp, sF hbox htok (fun _ h => h) (Nat.le_refl _) ?_⟩
       simp [packA, ← hN]
      ·rw [e5] at hd
       try (simp [hw])
       repeat (first | (refine sR ?_; simp [hw]) | (refine sC ?_; simp [hw]) | (refine sX ?_; simp only [AU, ↓reduceIte]))
       refine sE ?_
       exact ⟨i + 1, ⟨hlt, hyes hd⟩, by omega, Weaks.mk (Nat.le_refl _) rfl (by simp [ToL, lk, lb_at]) (by simp [BoxL, lk])⟩
    ·refine sX ?_
     simp only [AU, ↓reduceIte]
     have : i = c.exts.length := by omega
     subst this
     rw [List.take_length] at hok
     rw [hok] at hN
     try (simp)
     repeat (refine sR ?_; simp)
     refine sT ?_
     try simp only [AU]
     refine ⟨by simp, sF hbox htok (fun _ h => h) (Nat.le_refl _) ?_⟩
     simp [packA, ← hN]
end Go.AM
namespace Go.AM
open Go
theorem outG {rows0 : List (List AV)} {box : Bxs} {k base : Nat} {p q : Nat → Prop} (h0 : ∀ r ∈ rows0, ∀ x ∈ r, OkIn p q x) : ∀ k' rows, k' < base → (upd box k (some rows0)) k' = some rows → box k' = some rows ∨ ∀ r ∈ rows, ∀ x ∈ r, OkIn p q x := by
 intro k' rows hk' hr
 by_cases e : k' = k
 ·subst e
  rw [upd_same] at hr
  cases hr
  exact .inr h0
 ·rw [upd_other _ _ e] at hr
  exact .inl hr
end Go.AM
namespace Go.Proofs.YtainalmfffjnjaaGreatDoor.bld
open Go Go.Proofs Go.RowKit
theorem infoB : (Tryz.prog.info? 129).map (fun i => i.size) = some 2 := by kernel_rfl
set_option maxHeartbeats 1000000 in
set_option maxRecDepth 100000 in
theorem used (b : Nat) (w : World) (h0 : w.cell? ⟨b, 0, none⟩ = some (.pointer (some ⟨b, 0, none⟩))) :
  Calls Tryz.prog 120 #[.pointer (some ⟨b, 0, none⟩)] w fun e w' => e = .returned (.tuple #[]) ∧ w' = w := by
 obtain ⟨j, hj, _⟩ := Option.map_eq_some_iff.1 infoB
 go_enter Tryz.func120, Tryz.ntmps120
 go_wp2
 rw [Lib.run_neq_ptr_same w _ Tryz.underlying127 hj]
 go_wp2
 go_end0
 exact ⟨rfl, rfl⟩
set_option maxHeartbeats 1000000 in
set_option maxRecDepth 100000 in
theorem fresh (T : TypeId) (n : Nat) (hn : 0 < n) (hlies : liesAt Tryz.prog Tryz.prog.depth T (n / Tryz.prog.cellsOf T) 0 129 1 = true) (b : Nat) (w : World) (h0 : w.cell? ⟨b, 0, none⟩ = some (.pointer none)) (hsh : w.shape? b = some (T, n)) (hfz : w.frozen? ⟨b, 0, none⟩ = false) :
  Calls Tryz.prog 120 #[.pointer (some ⟨b, 0, none⟩)] w fun e w' => e = .returned (.tuple #[]) ∧ w' = w.setCell ⟨b, 0, none⟩ (.pointer (some ⟨b, 0, none⟩)) := by
 obtain ⟨j, hj, hjs⟩ := Option.map_eq_some_iff.1 infoB
 go_enter Tryz.func120, Tryz.ntmps120
 go_wp2
 rw [Lib.run_to_unsafe w ⟨b, 0, none⟩ Tryz.underlying127 Tryz.underlying286 hj (by rw [hjs]; decide) hsh hn]
 simp only [Result.andThen]
 rw [Oper.upon_value]
 go_wp2
 rw [run_callFunc_extern Tryz.func199 (by kernel_rfl) (by kernel_rfl) (by kernel_rfl) (e := Extern.AbiNoEscape.same) (by kernel_rfl)]
 rw [Lib.run_noEscape]
 simp only [Result.andThen]
 rw [Oper.upon_value]
 go_wp2
 rw [Lib.run_from_unsafe w ⟨b, 0, none⟩ Tryz.underlying286 Tryz.underlying127 hj hsh hlies]
 simp only [Result.andThen]
 rw [Oper.upon_value]
 go_wp2
 go_end0
 exact ⟨rfl, rfl⟩
end Go.Proofs.YtainalmfffjnjaaGreatDoor.bld
namespace Go.AM
open Go Go.Proofs Go.RowKit
theorem box_two {G : Gh} {m : AMem} {w : World} (hm : RelM G m w) {k b sz : Nat} {x y : AV} (hk : m.box k = some [[x, y]]) (hb : G.bx k = some (b, sz)) : sz = 2 ∧ ∃ u v e, w.heap[b]? = some (.cells #[u, v] e (0, 0)) ∧ RV G w x u ∧ RV G w y v ∧ u.oneCell' = true ∧ v.oneCell' = true := by
 obtain ⟨_, cs, e, h1, h2, h3, h4⟩ := hm.box k _ b sz hk hb
 have hs : sz = 2 := by have := h2 [x, y] (by simp); simpa using this.symm
 have hf : ([[x, y]] : List (List AV)).flatten = [x, y] := by simp
 rw [hf] at h3
 have hl : cs.toList.length = 2 := by have := h3.1; simpa using this.symm
 obtain ⟨l⟩ := cs
 match l, hl with
 | [u, v], _ =>
  refine ⟨hs, u, v, e, h1, ?_, ?_, h4 u (by simp), h4 v (by simp)⟩
  ·exact h3.2 0 (by simp) (by simp)
  ·exact h3.2 1 (by simp) (by simp)
theorem copy_c (T : TypeId) (hlies : liesAt Tryz.prog Tryz.prog.depth T (2 / Tryz.prog.cellsOf T) 0 129 1 = true) (k nb : Nat) (box : Bxs) (tok : Tks) (nt : Nat) (x y : AV) (hx : x = .here k T ∨ x = .ptr k 0 0) (hk : box k = some [[x, y]]) :
  ACalls Tryz.prog 120 [.ptr k 0 0] ⟨box, nb, tok, nt⟩ fun v m => v = .tup [] ∧ m = ⟨upd box k (some [[.ptr k 0 0, y]]), nb, tok, nt⟩ := by
 refine ⟨Enters.mk Tryz.func120 rfl (by kernel_rfl), fun G w vals hm hr => ?_⟩
 obtain ⟨hlen, hrv⟩ := hr
 match vals, hlen with
 | [v], _ =>
  have h0 := hrv 0 (by simp) (by simp)
  simp only [List.getElem_cons_zero] at h0
  cases h0 with
  | @ptr _ _ _ b sz hb =>
  obtain ⟨rfl, c0, c1, e, hh, hr0, hr1, ho0, ho1⟩ := box_two hm hk hb
  have ha : (⟨b, 0 * 2 + 0, none⟩ : Addr) = ⟨b, 0, none⟩ := by simp
  rw [ha]
  have hc0 : w.cell? ⟨b, 0, none⟩ = some c0 := by simp [World.cell?, hh]
  rcases hx with rfl | rfl
  ·cases hr0 with
   | @here _ b2 sz2 _ cs2 f2 hb2 ht2 =>
   rw [hb] at hb2
   simp only [Option.some.injEq, Prod.mk.injEq] at hb2
   obtain ⟨rfl, rfl⟩ := hb2
   rw [hh] at ht2
   simp only [Option.some.injEq, Obj.cells.injEq] at ht2
   obtain ⟨rfl, rfl, rfl⟩ := ht2
   refine (YtainalmfffjnjaaGreatDoor.bld.fresh e 2 (by decide) hlies b w hc0 (by simp [World.shape?, hh]) (by simp [World.frozen?, hh])).mono ?_
   rintro e' w' ⟨rfl, rfl⟩
   have hw : w.setCell ⟨b, 0, none⟩ (.pointer (some ⟨b, 0, none⟩)) = w.setRow b #[.pointer (some ⟨b, 0, none⟩), c1] := by
    simp only [World.setCell, World.setRow]
    refine congrArg (fun h : Array Obj => ({ w with heap := h } : World)) ?_
    refine Array.ext_getElem? fun i => ?_
    rw [Array.getElem?_modify, Array.getElem?_modify]
    by_cases e2 : b = i
    ·subst e2
     simp [hh]
    ·simp [e2]
   have hkb := (hm.blt hb).2
   have hle := Le.setRow (w := w) hkb #[.pointer (some ⟨b, 0, none⟩), c1]
   have hp : RV G w (.ptr k 0 0) (.pointer (some ⟨b, 0, none⟩)) := by
    have := RV.ptr (w := w) (i := 0) (off := 0) hb
    rwa [ha] at this
   rw [hw]
   refine ⟨_, _, _, G, rfl, ⟨rfl, rfl⟩, rfl, ?_, .tup rfl fun i h1 => by simp at h1, hle, fun j hj => ⟨hj, ?_⟩⟩
   ·exact hm.setRow hb (rows := [[.ptr k 0 0, y]]) (by simp) hh (RVs.cons hp (RVs.cons hr1 RVs.nil)) (fun u hu => by simp at hu; rcases hu with rfl | rfl; exact rfl; exact ho1)
   ·have : j ≠ k := fun e => by subst e; rw [hb] at hj; cases hj
    exact upd_other _ _ this
  ·cases hr0 with
   | @ptr _ _ _ b2 sz2 hb2 =>
   rw [hb] at hb2
   simp only [Option.some.injEq, Prod.mk.injEq] at hb2
   obtain ⟨rfl, rfl⟩ := hb2
   rw [ha] at hc0
   refine (YtainalmfffjnjaaGreatDoor.bld.used b w hc0).mono ?_
   rintro e' w' ⟨rfl, rfl⟩
   have hself : upd box k (some [[.ptr k 0 0, y]]) = box := by
    funext j
    by_cases e : j = k
    ·subst e; rw [upd_same, hk]
    ·rw [upd_other _ _ e]
   refine ⟨_, _, _, G, rfl, ⟨rfl, rfl⟩, rfl, ?_, .tup rfl fun i h1 => by simp at h1, Le.refl _ _, fun j hj => ⟨hj, ?_⟩⟩
   ·rw [hself]; exact hm
   ·rw [hself]
end Go.AM
namespace Go.AM
open Go Go.Proofs
abbrev bufA (t : Nat) (s : ByteArray) : AV := .buf 5 t (bytesD s)
structure Wst (T : TypeId) (k : Nat) (s : ByteArray) (x y : AV) (o : Own) : Prop where
 x : x = .here k T ∨ x = .ptr k 0 0
 y : (s = ⟨#[]⟩ ∧ y = nilS ∧ o = .full) ∨ ∃ t, o = .tok t ∧ y = bufA t s
structure Fol (o : Own) (tok : Tks) (nt : Nat) (o' : Own) (tok' : Nat → Bool) (nt' : Nat) : Prop where
 le : nt ≤ nt'
 tk : ∀ mtok nt0 os, TK mtok nt0 tok nt (o :: os) → TK mtok nt0 tok' nt' (o' :: os)
 live : o'.liveP tok'
theorem Fol.trans {o o' o'' : Own} {tok tok' tok'' : Nat → Bool} {nt nt' nt'' : Nat} (h : Fol o tok nt o' tok' nt') (k : Fol o' tok' nt' o'' tok'' nt'') : Fol o tok nt o'' tok'' nt'' :=
 ⟨Nat.le_trans h.le k.le, fun m n os x => k.tk m n os (h.tk m n os x), k.live⟩
theorem Fol.refl {o : Own} {tok : Nat → Bool} {nt : Nat} (h : o.liveP tok) : Fol o tok nt o tok nt := ⟨Nat.le_refl _, fun _ _ _ x => x, h⟩
theorem Fol.step {o : Own} {tok : Nat → Bool} {nt : Nat} : Fol o tok nt (.tok nt) (upd (o.kill tok) nt true) (nt + 1) := ⟨Nat.le_succ _, fun _ _ _ x => x.app, by simp [Own.liveP, upd_same]⟩
def QW (k : Nat) (s : ByteArray) (v0 : AV) (o : Own) (box : Bxs) (nb : Nat) (tok : Tks) (nt : Nat) (v : AV) (m : AMem) : Prop :=
 v = v0 ∧ ∃ t tok' nt', Fol o tok nt (.tok t) tok' nt' ∧ m = ⟨upd box k (some [[.ptr k 0 0, bufA t s]]), nb, tok', nt'⟩
theorem bytesD_app (a b : ByteArray) : bytesD (a ++ b) = bytesD a ++ bytesD b := by simp [bytesD]
set_option maxRecDepth 100000 in
theorem writeS_c (T : TypeId) (hlies : liesAt Tryz.prog Tryz.prog.depth T (2 / Tryz.prog.cellsOf T) 0 129 1 = true) (k nb : Nat) (box : Bxs) (tok : Tks) (nt : Nat) (x y : AV) (o : Own) (s d : ByteArray) (hs : Wst T k s x y o)
  (hk : box k = some [[x, y]]) (hl : o.liveP tok) (hd : 0 < d.size) (hz : s.size + d.size ≤ 1000000000000) :
  ACalls Tryz.prog 55 [.ptr k 0 0, Sb d] ⟨box, nb, tok, nt⟩ (QW k (s ++ d) (.tup [I d.size, .d (.raw .nilIface)]) o box nb tok nt) := by
 have hc := fun box' nb' tok' nt' h => copy_c T hlies k nb' box' tok' nt' x y hs.x h
 refine sB Tryz.func55 Tryz.ntmps55 ?_
 intro hbox htok
 simp only at hbox htok
 apply AL.start
 have kn := key_lt hbox hk
 try (simp)
 repeat (first | (refine sR ?_; simp) | (refine sC ?_; simp) | (refine sX ?_; simp only [AU, ↓reduceIte]))
 refine Stop.of_a (hc _ _ _ _ (by simp only; rw [lb_out kn]; exact hk)) ?_
 rintro v m ⟨rfl, rfl⟩
 rcases hs.y with ⟨rfl, rfl, rfl⟩ | ⟨t, rfl, rfl⟩
 ·try (simp [lb_out kn, upd_lb_out kn, upd_same, upd_upd])
  repeat (first | (refine sR ?_; simp [lb_out kn, upd_lb_out kn, upd_same, upd_upd]) | (refine sC ?_; simp [lb_out kn, upd_lb_out kn, upd_same, upd_upd]) | (refine sX ?_; simp only [AU, ↓reduceIte]))
  refine ⟨⟨hd, by omega⟩, ?_⟩
  try (simp [lb_out kn, upd_lb_out kn, upd_same, upd_upd])
  repeat (first | (refine sR ?_; simp [lb_out kn, upd_lb_out kn, upd_same, upd_upd]) | (refine sC ?_; simp [lb_out kn, upd_lb_out kn, upd_same, upd_upd]) | (refine sX ?_; simp only [AU, ↓reduceIte]))
  refine sT ?_
  try simp only [AU]
  refine ⟨by simp, (Fin.gen (av := .tup [I d.size, .d (.raw .nilIface)]) (tok' := upd tok nt true) (nt' := nt + 1) (by simp [resAs, resA, lk]; rfl) (by rw [← upd_lb_out kn, hbox]) (by omega) (Nat.le_refl _) (fun t ht => ⟨ht, .inl rfl⟩) (outG (by simp [lb_out kn, upd_same]; exact .buf trivial)) (by simp [packA])).mono fun v m hq => ?_⟩
  exact ⟨hq.1, nt, _, _, Fol.step, by rw [hq.2, show (⟨#[]⟩ : ByteArray) ++ d = d from ByteArray.empty_append]; rfl⟩
 ·have ht : tok t = true := hl
  have hbl := bytesD_len s
  try (simp [lb_out kn, upd_lb_out kn, upd_same, upd_upd])
  repeat (first | (refine sR ?_; simp [lb_out kn, upd_lb_out kn, upd_same, upd_upd]) | (refine sC ?_; simp [lb_out kn, upd_lb_out kn, upd_same, upd_upd]) | (refine sX ?_; simp only [AU, ↓reduceIte]))
  refine ⟨⟨by omega, ht⟩, ?_⟩
  try (simp [lb_out kn, upd_lb_out kn, upd_same, upd_upd])
  repeat (first | (refine sR ?_; simp [lb_out kn, upd_lb_out kn, upd_same, upd_upd]) | (refine sC ?_; simp [lb_out kn, upd_lb_out kn, upd_same, upd_upd]) | (refine sX ?_; simp only [AU, ↓reduceIte]))
  refine sT ?_
  try simp only [AU]
  refine ⟨by simp, (Fin.gen (av := .tup [I d.size, .d (.raw .nilIface)]) (tok' := upd (upd tok t false) nt true) (nt' := nt + 1) (by simp [resAs, resA, lk]; rfl) (by rw [← upd_lb_out kn, hbox]) (by omega) (Nat.le_refl _) (fun t ht => ⟨ht, .inl rfl⟩) (outG (by simp [lb_out kn, upd_same]; exact .buf trivial)) (by simp [packA])).mono fun v m hq => ?_⟩
  exact ⟨hq.1, nt, _, _, Fol.step, by rw [hq.2]; simp only [bufA, bytesD_app]; rfl⟩
end Go.AM
namespace Go.Proofs.YtainalmfffjnjaaGreatDoor.bld
open Go Go.Proofs Go.RowKit Go.Shelf
theorem cellsU8 : Tryz.prog.cellsOf 5 = 1 := by kernel_rfl
set_option maxHeartbeats 1000000 in
set_option maxRecDepth 100000 in
theorem string (T : TypeId) (b g cap : Nat) (p : Value) (cur : Array Value) (l : List UInt8) (h0 : l ≠ []) (w : World) (hbk : w.heap[b]? = some (.cells #[p, .slice (some ⟨g, 0, none⟩) l.length cap] T (0, 0))) (hg : w.heap[g]? = some (.cells cur 5 (0, 0)))
  (hnc : l.length ≤ cap) (hcm : cap ≤ maxLen) (hcs : cur.size = cap) (hcell : ∀ j x, l[j]? = some x → w.cell? ((⟨g, 0, none⟩ : Addr).add j) = some (.int .u8 x.toNat)) :
  Calls Tryz.prog 56 #[.pointer (some ⟨b, 0, none⟩)] w fun e w' => e = .returned (.string ⟨l.toArray⟩) ∧ w' = w.drew.freeze ⟨g, 0, none⟩ l.length := by
 have hl0 : l.length ≠ 0 := by simpa using h0
 have c1 : w.drew.cell? ⟨b, 1, none⟩ = some (.slice (some ⟨g, 0, none⟩) l.length cap) := by
  have : w.drew.heap[b]? = some (.cells #[p, .slice (some ⟨g, 0, none⟩) l.length cap] T (0, 0)) := hbk
  rw [Lib.cell_of_heap this]; rfl
 have hSD : (Builtin.unsafeSliceData_ #[66] 226 #[.slice (some ⟨g, 0, none⟩) l.length cap]).run Tryz.prog w.drew = .ok (.pointer (some ⟨g, 0, none⟩)) w.drew :=
  Lib.run_unsafeSliceData_row _ _ _ _ _ _ (by omega)
 have hUS : (Builtin.unsafeString_ #[226, 3] 9 #[.pointer (some ⟨g, 0, none⟩), .int .i64 l.length]).run Tryz.prog w.drew = .ok (.string ⟨l.toArray⟩) (w.drew.freeze ⟨g, 0, none⟩ l.length) := by
  refine Lib.run_unsafeString_row w.drew 226 3 9 5 Tryz.underlying226 cellsU8 g cur.size (by have hg' : w.drew.heap[g]? = some (.cells cur 5 (0, 0)) := hg; simp [World.shape?, hg']) l h0 (by omega) (by unfold maxLen at hcm; omega) ?_
  intro j x hx
  exact hcell j x hx
 have mixed : Tryz.prog.follows Departure.mixedOrders = true := by kernel_rfl
 go_enter Tryz.func56, Tryz.ntmps56
 go_wp2
 go_region_o
 all_goals (go_wp2; go_ret; exact ⟨rfl, rfl⟩)
end Go.Proofs.YtainalmfffjnjaaGreatDoor.bld
namespace Go.AM
open Go Go.Proofs Go.RowKit
theorem sz_listW (s : ByteArray) : s.data.toList.length = s.size := size_toList s
theorem ofBs_bsOfW (s : ByteArray) : (⟨s.data.toList.toArray⟩ : ByteArray) = s := by cases s; simp
theorem freeze_other (w : World) (g n j : Nat) (h : j ≠ g) : (w.freeze ⟨g, 0, none⟩ n).heap[j]? = w.heap[j]? := by
 unfold World.freeze
 split
 ·rfl
 ·simp only [Array.getElem?_modify]
  rw [if_neg (fun e => h e.symm)]
theorem freeze_at {w : World} {g n : Nat} {cs : Array Value} {E : TypeId} {f : Nat × Nat} (h : w.heap[g]? = some (.cells cs E f)) : ∃ f', (w.freeze ⟨g, 0, none⟩ n).heap[g]? = some (.cells cs E f') := by
 unfold World.freeze
 split
 ·exact ⟨f, h⟩
 ·obtain ⟨lo, hi⟩ := f
  simp [Array.getElem?_modify, h]
theorem freeze_cell {w : World} {g n : Nat} {cs : Array Value} {E : TypeId} {f : Nat × Nat} (h : w.heap[g]? = some (.cells cs E f)) (a : Addr) : (w.freeze ⟨g, 0, none⟩ n).cell? a = w.cell? a := by
 by_cases e : a.block = g
 ·obtain ⟨f', h'⟩ := freeze_at (n := n) h
  subst e
  simp only [World.cell?, h, h']
 ·exact World.cell?_of_block (w := w) (freeze_other w g n a.block e)
theorem Le.freeze {G : Gh} {w : World} {g n f c : Nat} {cs : Array Value} {E : TypeId} {fr : Nat × Nat} (hk : G.kind g = .part f c) (hg : w.heap[g]? = some (.cells cs E fr)) : Le G w G (w.freeze ⟨g, 0, none⟩ n) where
 os := by unfold World.freeze; split <;> rfl
 tape := by unfold World.freeze; split <;> rfl
 output := by unfold World.freeze; split <;> rfl
 size := by unfold World.freeze; split <;> simp
 whole b _ h := ⟨h, freeze_other w g n b (fun e => by subst e; rw [hk] at h; cases h)⟩
 part b f c h := ⟨⟨f, Nat.le_refl _, h⟩, fun a _ _ => freeze_cell hg a⟩
 bx _ _ h := h
 nt := Nat.le_refl _
 tk _ _ := .inr ⟨rfl, fun g' _ => ⟨rfl, fun he => freeze_other w g n g' (fun e => by subst e; rw [hk] at he; cases he)⟩⟩
 ty b c0 T f0 hb := by
  by_cases e : b = g
  ·subst e
   obtain ⟨f', h'⟩ := freeze_at (n := n) hb
   exact ⟨c0, f', h'⟩
  ·exact ⟨c0, f0, (freeze_other w g n b e).trans hb⟩
theorem RelM.freeze {G : Gh} {m : AMem} {w : World} (h : RelM G m w) {g n f c : Nat} {cs : Array Value} {E : TypeId} {fr : Nat × Nat} (hk : G.kind g = .part f c) (hg : w.heap[g]? = some (.cells cs E fr)) (ht : ∀ t, G.tk t ≠ some (some g)) : RelM G m (w.freeze ⟨g, 0, none⟩ n) where
 box k rows b sz h1 h2 := by
  obtain ⟨g1, cs', e, g2, g3, g4, g5⟩ := h.box k rows b sz h1 h2
  exact ⟨g1, cs', e, (freeze_other w g n b (fun e => by subst e; rw [hk] at g1; cases g1)).trans g2, g3, g4.mono (Le.freeze hk hg), g5⟩
 nobox := h.nobox
 inj := h.inj
 nb := h.nb
 nt := h.nt
 toks := h.toks
 tokb t g' hg' := by
  obtain ⟨f', cur, e, g1, g2⟩ := h.tokb t g' hg'
  exact ⟨f', cur, e, g1, (freeze_other w g n g' (fun e => ht t (e ▸ hg'))).trans g2⟩
 tinj := h.tinj
 tnt := h.tnt
 fresh b hb := h.fresh b (Nat.le_trans (by unfold World.freeze; split <;> simp) hb)
theorem stringB_c (k nb : Nat) (box : Bxs) (tok : Tks) (nt : Nat) (x : AV) (t : Nat) (s : ByteArray) (hs : 0 < s.size) (hk : box k = some [[x, bufA t s]]) (ht : tok t = true) :
  ACalls Tryz.prog 56 [.ptr k 0 0] ⟨box, nb, tok, nt⟩ fun v m => v = Sb s ∧ m = ⟨box, nb, upd tok t false, nt⟩ := by
 refine ⟨Enters.mk Tryz.func56 rfl (by kernel_rfl), fun G w vals hm hr => ?_⟩
 obtain ⟨hlen, hrv⟩ := hr
 match vals, hlen with
 | [v], _ =>
  have h0 := hrv 0 (by simp) (by simp)
  simp only [List.getElem_cons_zero] at h0
  cases h0 with
  | @ptr _ _ _ b sz hb =>
  obtain ⟨rfl, c0, c1, e, hh, hr0, hr1, ho0, ho1⟩ := box_two hm hk hb
  have ha : (⟨b, 0 * 2 + 0, none⟩ : Addr) = ⟨b, 0, none⟩ := by simp
  rw [ha]
  obtain ⟨_, y, hy⟩ := hm.toks t ht
  cases hr1 with
  | buf h1 h2 h3 h4 =>
  have hbl := bytesD_len s
  cases y with
  | none => exact absurd hy h3
  | some g =>
   obtain ⟨cap, hv, hkg⟩ := h2.2 _ hy
   obtain ⟨cs, f4, hg4⟩ := h4 g hy
   obtain ⟨f, cur, e5, hpk, hgh⟩ := hm.tokb t g hy
   rw [hg4] at hgh
   simp only [Option.some.injEq, Obj.cells.injEq] at hgh
   obtain ⟨rfl, rfl, rfl⟩ := hgh
   have hcs : cs.size = cap := by
    rcases hpk with hpk | hpk
    ·rw [hkg] at hpk
     injection hpk with _ h6
     omega
    ·rw [hkg] at hpk; cases hpk
   subst hv
   have hds : s.data.toList.length = s.size := sz_listW s
   have hcells : ∀ j x, s.data.toList[j]? = some x → w.cell? ((⟨g, 0, none⟩ : Addr).add j) = some (.int .u8 x.toNat) ∧ (bytesD s).length ≤ cap ∧ cap ≤ maxLen := by
    intro j x hx
    have hj : j < s.data.toList.length := (List.getElem?_eq_some_iff.1 hx).1
    have hxe : s.data.toList[j] = x := (List.getElem?_eq_some_iff.1 hx).2
    have hget : ∀ (h1 : j < (bytesD s).length) (h2 : 0 < ((bytesD s)[j]).length), ((bytesD s)[j])[0] = D.raw (.int .u8 x.toNat) := by
     intro h1 h2
     simp only [bytesD, List.getElem_map, List.getElem_cons_zero, hxe]
    generalize hes : bytesD s = es at *
    cases h1 with
    | @sl _ _ A cap2 u hcap hmax hsz hA hc hrr =>
     have hj' : j < es.length := by omega
     have hl1 := hsz _ (List.getElem_mem hj')
     have q1 := (hc _ rfl j 0 hj' (by omega)).2
     have q2 := hrr j 0 hj' (by omega)
     rw [hget hj' (by omega)] at q2
     generalize u j 0 = uj at q1 q2
     cases q2
     rw [Nat.mul_one, Nat.add_zero] at q1
     exact ⟨q1, hcap, hmax⟩
   have hne : s.data.toList ≠ [] := by intro e; rw [e] at hds; simp at hds; omega
   obtain ⟨_, hcp, hcm⟩ := hcells 0 (s.data.toList[0]'(by omega)) (List.getElem?_eq_getElem _)
   rw [hbl, ← hds] at hh hkg
   rw [hbl, ← hds] at hcp
   refine (YtainalmfffjnjaaGreatDoor.bld.string e b g cap c0 cs s.data.toList hne w hh hg4 hcp hcm hcs (fun j x hx => (hcells j x hx).1)).mono ?_
   rintro e' w' ⟨rfl, rfl⟩
   have hm1 := (hm.kill (.tok t)).drew
   have hg5 : w.drew.heap[g]? = some (.cells cs 5 (0, 0)) := hg4
   have hk5 : (G.kill (.tok t)).kind g = .part (s.data.toList.length * 1) (cap * 1) := hkg
   have ht5 : ∀ t', (G.kill (.tok t)).tk t' ≠ some (some g) := by
    intro t' h
    simp only [Gh.kill] at h
    by_cases e : t' = t
    ·subst e; rw [upd_same] at h; cases h
    ·rw [upd_other _ _ e] at h; exact e (hm.tinj t' t g h hy)
   have hle : Le G w (G.kill (.tok t)) (w.drew.freeze ⟨g, 0, none⟩ s.data.toList.length) := (Le.kill (.tok t)).trans (Le.drew.trans (Le.freeze hk5 hg5))
   refine ⟨_, _, _, G.kill (.tok t), rfl, ⟨rfl, rfl⟩, rfl, hm1.freeze hk5 hg5 ht5, ?_, hle, fun j hj => ⟨hj, rfl⟩⟩
   have : (⟨s.data.toList.toArray⟩ : ByteArray) = s := ofBs_bsOfW s
   rw [this]
   exact .d (.raw rfl)
end Go.AM
namespace Go.AM
open Go Go.Proofs
def nN (i : Nat) : ByteArray := ⟨#[110]⟩ ++ dgB i
theorem nN_size {i : Nat} (h : i < 100) : 1 ≤ (nN i).size ∧ (nN i).size ≤ 3 := by
 have h1 : (⟨#[110]⟩ : ByteArray).size = 1 := rfl
 have h2 := dgB_size h
 unfold nN
 rw [ByteArray.size_append]
 omega
def cE (images : List Int) (k : Nat) : Nat := ((List.range k).filter fun (j : Nat) => decide (indexI images (j : Int) < 0)).length
theorem cE_le (images : List Int) (k : Nat) : cE images k ≤ k := by unfold cE; have := List.length_filter_le (fun (j : Nat) => decide (indexI images (j : Int) < 0)) (List.range k); simpa using this
theorem cE_succ (images : List Int) (k : Nat) : cE images (k + 1) = cE images k + if indexI images (k : Int) < 0 then 1 else 0 := by
 unfold cE
 rw [List.range_succ, List.filter_append, List.length_append]
 by_cases h : indexI images (k : Int) < 0 <;> simp [h]
def nxE (images : List Int) (j : Nat) : Nat := images.length + cE images j
def nm1 (n : Nat) (images : List Int) (i : Nat) : List ByteArray := (List.range n).map fun (k : Nat) => if indexI (images.take i) (k : Int) < 0 then ⟨#[]⟩ else nN (indexI (images.take i) (k : Int)).toNat
def nm2 (n : Nat) (images : List Int) (j : Nat) : List ByteArray := (List.range n).map fun (k : Nat) => if indexI images (k : Int) < 0 then (if k < j then nN (nxE images k) else ⟨#[]⟩) else nN (indexI images (k : Int)).toNat
def nmsR (n : Nat) (images : List Int) : List ByteArray := nm2 n images n
theorem nm1_len (n : Nat) (images : List Int) (i : Nat) : (nm1 n images i).length = n := by simp [nm1]
theorem nm2_len (n : Nat) (images : List Int) (i : Nat) : (nm2 n images i).length = n := by simp [nm2]
theorem nm1_zero (n : Nat) (images : List Int) : nm1 n images 0 = List.replicate n ⟨#[]⟩ := by
 refine List.ext_getElem (by simp [nm1]) fun i h1 h2 => ?_
 simp [nm1, indexI]
theorem nm1_end (n : Nat) (images : List Int) : nm1 n images images.length = nm2 n images 0 := by
 refine List.ext_getElem (by simp [nm1, nm2]) fun i h1 h2 => ?_
 simp [nm1, nm2]
theorem nm1_set {n : Nat} {images : List Int} {i : Nat} (h : i < images.length) (hd : images.Nodup) (h0 : 0 ≤ images[i]) : (nm1 n images i).set images[i].toNat (nN i) = nm1 n images (i + 1) := by
 refine List.ext_getElem (by simp [nm1]) fun k a b => ?_
 rw [List.getElem_set]
 have hg : images.getD i 0 = images[i] := by simp [h]
 simp only [nm1, List.getElem_map, List.getElem_range]
 by_cases e : images[i].toNat = k
 ·have e2 : images.getD i 0 = (k : Int) := by rw [hg]; omega
  have := index_yes h hd
  rw [e2] at this
  rw [if_pos e, this, if_neg (by omega)]
  simp
 ·have e2 : images.getD i 0 ≠ (k : Int) := by rw [hg]; omega
  rw [if_neg e, index_no h e2 hd]
theorem nm2_set {n : Nat} {images : List Int} {j : Nat} (h : indexI images (j : Int) < 0) : (nm2 n images j).set j (nN (nxE images j)) = nm2 n images (j + 1) := by
 refine List.ext_getElem (by simp [nm2]) fun k a b => ?_
 rw [List.getElem_set]
 simp only [nm2, List.getElem_map, List.getElem_range]
 by_cases e : j = k
 ·subst e
  rw [if_pos rfl, if_pos h, if_pos (Nat.lt_succ_self _)]
 ·rw [if_neg e]
  by_cases h1 : indexI images (k : Int) < 0
  ·rw [if_pos h1, if_pos h1]
   by_cases h2 : k < j
   ·rw [if_pos h2, if_pos (show k < j + 1 by omega)]
   ·rw [if_neg h2, if_neg (show ¬ k < j + 1 by omega)]
  ·rw [if_neg h1, if_neg h1]
theorem nm2_skip {n : Nat} {images : List Int} {j : Nat} (h : ¬ indexI images (j : Int) < 0) : nm2 n images j = nm2 n images (j + 1) := by
 refine List.ext_getElem (by simp [nm2]) fun k a b => ?_
 simp only [nm2, List.getElem_map, List.getElem_range]
 by_cases h1 : indexI images (k : Int) < 0
 ·rw [if_pos h1, if_pos h1]
  have e : k ≠ j := fun e => by subst e; exact h h1
  by_cases h2 : k < j
  ·rw [if_pos h2, if_pos (show k < j + 1 by omega)]
  ·rw [if_neg h2, if_neg (show ¬ k < j + 1 by omega)]
 ·rw [if_neg h1, if_neg h1]
def rowsS (l : List ByteArray) : List (List AV) := l.map fun s => [Sb s]
theorem rowsS_len (l : List ByteArray) : (rowsS l).length = l.length := by simp [rowsS]
theorem rowsS_get {l : List ByteArray} {i : Nat} (h : i < l.length) : (rowsS l)[i]? = some [Sb l[i]] := by simp [rowsS, h]
theorem rowsS_set (l : List ByteArray) (i : Nat) (s : ByteArray) : (rowsS l).set i [Sb s] = rowsS (l.set i s) := by simp [rowsS, List.map_set]
theorem rowsS_eq (l : List ByteArray) : rowsS l = rowsD (l.map fun s => [D.raw (.string s)]) := by simp [rowsS, rowsD]
theorem rowsS_rep (n : Nat) : List.replicate n [Sb ⟨#[]⟩] = rowsS (List.replicate n ⟨#[]⟩) := by simp [rowsS]
theorem rowsTo_S {p q : Nat → Prop} {fz : Option (Nat × Nat × List (List D))} (l : List ByteArray) : RowsTo p q fz (rowsS l) (rowsS l) := by rw [rowsS_eq]; simp
def fmN1 (n : Nat) (images : List Int) (nb : Nat) (box : Bxs) (tok : Tks) (nt : Nat) (i : Nat) : AState :=
 ⟨tl [(14, I i), (13, I images.length), (12, .d (ints images)), (5, .msl (nb + 11) 0 n 1), (1, .d (ints images))], lb nb box [(11, rowsS (nm1 n images i))], tok, nt⟩
def fmN2 (n : Nat) (images : List Int) (nb : Nat) (box : Bxs) (tok : Tks) (nt : Nat) (j : Nat) : AState :=
 ⟨tl [(30, I j), (29, I n), (8, I (nxE images j)), (5, .msl (nb + 11) 0 n 1)], lb nb box [(11, rowsS (nm2 n images j))], tok, nt⟩
theorem nN_ne {i : Nat} (h : i < 100) : ¬ (nN i).toList = [] := fun e => by
 have := (nN_size h).1
 rw [ByteArray.toList_eq] at e
 rw [← size_toList, e] at this
 exact absurd this (by simp)
theorem to_frzS {p q : Nat → Prop} {k n : Nat} {L : List ByteArray} (h : L.length = n) : To p q (some (k, 1, L.map fun b => [D.raw (.string b)])) (.msl k 0 n 1) (.d (strs L)) := by
 have h2 := To.frz (p := p) (q := q) (fz := some (k, 1, L.map fun b => [D.raw (.string b)])) (k := k) (sz := 1) (es := L.map fun b => [D.raw (.string b)]) rfl
 have : (L.map fun b => [D.raw (.string b)]).length = n := by simp [h]
 rw [this] at h2
 exact h2
theorem nmsK_c (n : Nat) (images : List Int) (hn : n ≤ 50) (hi : images.length ≤ 50) (hr : ∀ x ∈ images, 0 ≤ x ∧ x < n) (hd : images.Nodup) (tok : Tks) (nt : Nat) : DCall Tryz.prog 145 [I n, .d (ints images)] tok nt (.d (strs (nmsR n images))) tok nt := by
 intro box nb
 have hz : rowsS (nm1 n images 0) = List.replicate n [Sb ⟨#[]⟩] := by rw [nm1_zero, rowsS_rep]
 refine sB Tryz.func145 Tryz.ntmps145 ?_
 intro hbox htok
 simp only at hbox htok
 apply AL.start
 try (simp)
 repeat (refine sR ?_; simp)
 try refine ⟨by omega, ?_⟩
 try (simp)
 repeat (refine sR ?_; simp)
 rw [← hz]
 refine sN ?_
 refine AL.loopT (fmN1 n images nb box tok nt) (fun i => i ≤ images.length) (fun i => images.length - i) 0 (Nat.zero_le _) (Weaks.mk (Nat.le_refl _) rfl (by simp [ToL, lk]) (by simp [BoxL, lk]; exact rowsTo_S _)) ?_
 rintro i S hii hS
 simp only [fmN1] at hS
 subst hS
 have hw := sW (i := i) (by omega)
 have hln := nm1_len n images i
 by_cases hlt : i < images.length
 ·obtain ⟨z1, z2⟩ := hr _ (List.getElem_mem hlt)
  have z3 : images[i].toNat < n := by omega
  have hset := nm1_set (n := n) hlt hd z1
  have hit := itoaD_c i (by omega)
  have hsz := dgB_size (i := i) (by omega)
  have hrl := rowsS_len (nm1 n images i)
  have hget := rowsS_get (l := nm1 n images i) (i := images[i].toNat) (by rw [hln]; exact z3)
  try (simp [hlt])
  repeat (first | (refine sR ?_; simp [hlt]) | (refine sC ?_; simp [hlt]) | (refine sX ?_; simp only [AU, ↓reduceIte]))
  have hput : (rowsS (nm1 n images i)).set images[i].toNat [Sb (⟨#[110]⟩ ++ dgB i)] = rowsS (nm1 n images (i + 1)) := by rw [rowsS_set, ← hset]; rfl
  refine Stop.of_d (hit _ _) ?_
  simp [hlt, z1, z2, z3, hget, hput]
  refine ⟨by have h1 : (⟨#[110]⟩ : ByteArray).size = 1 := rfl; omega, ?_⟩
  try refine ⟨by omega, ?_⟩
  try (simp [hlt, z1, z2, z3, hget, hput, hw])
  repeat (first | (refine sR ?_; simp [hlt, z1, z2, z3, hget, hput, hw]) | (refine sC ?_; simp [hlt, z1, z2, z3, hget, hput, hw]) | (refine sX ?_; simp only [AU, ↓reduceIte]))
  refine sE ?_
  exact ⟨i + 1, hlt, by omega, Weaks.mk (Nat.le_refl _) rfl (by simp [ToL, lk]) (by simp [BoxL, lk]; exact rowsTo_S _)⟩
 ·have : i = images.length := by omega
  subst this
  rw [nm1_end]
  try (simp)
  repeat (first | (refine sR ?_; simp) | (refine sC ?_; simp) | (refine sX ?_; simp only [AU, ↓reduceIte]))
  refine sN ?_
  refine AL.loopT (fmN2 n images nb box tok nt) (fun j => j ≤ n) (fun j => n - j) 0 (Nat.zero_le _) (Weaks.mk (Nat.le_refl _) rfl (by simp [ToL, lk, nxE, cE]) (by simp [BoxL, lk]; exact rowsTo_S _)) ?_
  rintro j S hj hS
  simp only [fmN2] at hS
  subst hS
  have hwj := sW (i := j) (by omega)
  have hln := nm2_len n images j
  have hcl := cE_le images j
  by_cases hlj : j < n
  ·have hrl := rowsS_len (nm2 n images j)
   have hget := rowsS_get (l := nm2 n images j) (i := j) (by rw [hln]; exact hlj)
   have hcs := cE_succ images j
   by_cases hneg : indexI images (j : Int) < 0
   ·have hg0 : (nm2 n images j)[j]'(by rw [hln]; exact hlj) = ⟨#[]⟩ := by simp [nm2, hneg]
    rw [hg0] at hget
    rw [if_pos hneg] at hcs
    have hn1 : nxE images j < 100 := by unfold nxE; omega
    have hit := itoaD_c (nxE images j) hn1
    have hsz := dgB_size hn1
    have hset := nm2_set (n := n) hneg
    have hput : (rowsS (nm2 n images j)).set j [Sb (⟨#[110]⟩ ++ dgB (nxE images j))] = rowsS (nm2 n images (j + 1)) := by rw [rowsS_set, ← hset]; rfl
    have hnx : nxE images (j + 1) = nxE images j + 1 := by unfold nxE; rw [hcs]; rfl
    have hwn : IntKind.i64.wrap ((nxE images j : Int) + 1) = ((nxE images (j + 1) : Nat) : Int) := by rw [wrap_in (by omega) (by omega), hnx]; rfl
    try (simp [hlj, hget])
    repeat (first | (refine sR ?_; simp [hlj, hget]) | (refine sC ?_; simp [hlj, hget]) | (refine sX ?_; simp only [AU, ↓reduceIte]))
    refine Stop.of_d (hit _ _) ?_
    simp [hlj, hget, hput]
    refine ⟨by have h1 : (⟨#[110]⟩ : ByteArray).size = 1 := rfl; omega, ?_⟩
    try refine ⟨by omega, ?_⟩
    try (simp [hlj, hget, hput, hwj, hwn])
    repeat (first | (refine sR ?_; simp [hlj, hget, hput, hwj, hwn]) | (refine sC ?_; simp [hlj, hget, hput, hwj, hwn]) | (refine sX ?_; simp only [AU, ↓reduceIte]))
    refine sE ?_
    exact ⟨j + 1, hlj, by omega, Weaks.mk (Nat.le_refl _) rfl (by simp [ToL, lk]) (by simp [BoxL, lk]; exact rowsTo_S _)⟩
   ·have hg0 : (nm2 n images j)[j]'(by rw [hln]; exact hlj) = nN (indexI images (j : Int)).toNat := by simp [nm2, hneg]
    rw [hg0] at hget
    rw [if_neg hneg, Nat.add_zero] at hcs
    have hskip := nm2_skip (n := n) hneg
    have hil : indexI images (j : Int) < images.length := by
     rcases indexI_spec images (j : Int) with ⟨h1, _⟩ | ⟨k, h2, h3, _⟩
     ·omega
     ·omega
    have hne := nN_ne (i := (indexI images (j : Int)).toNat) (by omega)
    have hnx : nxE images (j + 1) = nxE images j := by unfold nxE; omega
    try (simp [hlj, hget, hne])
    repeat (first | (refine sR ?_; simp [hlj, hget, hne]) | (refine sC ?_; simp [hlj, hget, hne]) | (refine sX ?_; simp only [AU, ↓reduceIte]))
    refine sN ?_
    try (simp [hwj])
    repeat (first | (refine sR ?_; simp [hwj]) | (refine sC ?_; simp [hwj]) | (refine sX ?_; simp only [AU, ↓reduceIte]))
    refine sE ?_
    exact ⟨j + 1, hlj, by omega, Weaks.mk (Nat.le_refl _) rfl (by simp [ToL, lk, hnx]) (by simp [BoxL, lk, ← hskip]; exact rowsTo_S _)⟩
  ·have : j = n := by omega
   subst this
   try (simp)
   repeat (first | (refine sR ?_; simp) | (refine sC ?_; simp) | (refine sX ?_; simp only [AU, ↓reduceIte]))
   refine AL.weak (Weaks.frz (l' := [(4, .d (strs (nm2 j images j)))]) (loc' := []) 11 1 ((nm2 j images j).map fun b => [D.raw (.string b)]) (Nat.le_refl _) rfl (by simp [lk, rowsS_eq]) (by simp [lk]) (fun e he => by obtain ⟨b, _, rfl⟩ := List.mem_map.1 he; rfl) (by simp [ToL, lk, lb_at]; exact to_frzS hln) (by simp [BoxL, lk])) ?_
   refine sT ?_
   try simp only [AU]
   refine ⟨by simp, sF hbox htok (fun _ h => h) (Nat.le_refl _) ?_⟩
   simp [packA, nmsR]
end Go.AM
namespace Go.AM
open Go Go.Proofs
def tNode : ByteArray := ⟨#[32, 32, 110, 111, 100, 101, 32]⟩
def tEdge : ByteArray := ⟨#[32, 32, 101, 100, 103, 101, 32]⟩
def tCol : ByteArray := ⟨#[32, 58, 32]⟩
def tEnd : ByteArray := ⟨#[32, 59, 10]⟩
def tSp : ByteArray := ⟨#[32]⟩
def nmAt (nm : List ByteArray) (i : Int) : ByteArray := nm.getD i.toNat ⟨#[]⟩
def lnN (t : Ty) (g : Gr) (m : Mo) (nm : List ByteArray) (i : Nat) : ByteArray := if (i : Int) ∈ m.nodes then ⟨#[]⟩ else tNode ++ nmAt nm i ++ tCol ++ (t.nd (g.nodes.getD i 0).toNat).name ++ tEnd
def lnE (t : Ty) (g : Gr) (m : Mo) (nm : List ByteArray) (i : Nat) : ByteArray := if (i : Int) ∈ m.edges then ⟨#[]⟩ else tEdge ++ nmAt nm (g.edges.getD i default).fr ++ tSp ++ (t.ed (g.edges.getD i default).ty.toNat).name ++ tSp ++ nmAt nm (g.edges.getD i default).to ++ tEnd
def catB (f : Nat → ByteArray) : Nat → ByteArray
 | 0 => ⟨#[]⟩
 | k + 1 => catB f k ++ f k
def lnsR (t : Ty) (g : Gr) (m : Mo) (nm : List ByteArray) : ByteArray := catB (lnN t g m nm) g.nodes.length ++ catB (lnE t g m nm) g.edges.length
abbrev BdT : TypeId := 129
theorem liesB : liesAt Tryz.prog Tryz.prog.depth BdT (2 / Tryz.prog.cellsOf BdT) 0 129 1 = true := by kernel_rfl
theorem bszW (a : Array UInt8) : (ByteArray.mk a).size = a.size := rfl
theorem catB_size {f : Nat → ByteArray} (h : ∀ i, (f i).size ≤ 3000) : ∀ k, (catB f k).size ≤ k * 3000
 | 0 => Nat.le_refl _
 | k + 1 => by
  unfold catB
  rw [ByteArray.size_append, Nat.succ_mul]
  have h1 := catB_size h k
  have h2 := h k
  omega
theorem wrote {T : TypeId} {k : Nat} {s : ByteArray} {t : Nat} : Wst T k s (.ptr k 0 0) (bufA t s) (.tok t) := ⟨.inr rfl, .inr ⟨t, rfl, rfl⟩⟩
theorem wst_okW {T : TypeId} {k : Nat} {s : ByteArray} {x y : AV} {o : Own} {p q : Nat → Prop} (h : Wst T k s x y o) (hp : p k) (hq : ∀ t, q t) : ∀ r ∈ [[x, y]], ∀ z ∈ r, OkIn p q z := by
 intro r hr z hz
 simp only [List.mem_singleton] at hr
 subst hr
 simp only [List.mem_cons, List.not_mem_nil, or_false] at hz
 rcases hz with rfl | rfl
 ·rcases h.x with rfl | rfl
  ·exact .here hp
  ·exact .ptr hp
 ·rcases h.y with ⟨_, rfl, _⟩ | ⟨t, _, rfl⟩
  ·exact .osl fun t e => hq t
  ·exact .buf (hq t)
structure FmX where
 i : Nat
 x : AV
 y : AV
 o : Own
 tok : Nat → Bool
 nt : Nat
structure FmOk (f : Nat → ByteArray) (n k : Nat) (s : ByteArray) (o0 : Own) (tok0 : Nat → Bool) (nt0 : Nat) (a : FmX) : Prop where
 le : a.i ≤ n
 st : Wst BdT k (s ++ catB f a.i) a.x a.y a.o
 fol : Fol o0 tok0 nt0 a.o a.tok a.nt
theorem FmOk.skip {f : Nat → ByteArray} {n k : Nat} {s : ByteArray} {o0 : Own} {tok0 : Nat → Bool} {nt0 i : Nat} {x y : AV} {o : Own} {tok : Nat → Bool} {nt : Nat} (h : FmOk f n k s o0 tok0 nt0 ⟨i, x, y, o, tok, nt⟩) (hi : i < n) (hf : f i = ⟨#[]⟩) : FmOk f n k s o0 tok0 nt0 ⟨i + 1, x, y, o, tok, nt⟩ := by
 have e : catB f (i + 1) = catB f i := by
  show catB f i ++ f i = _
  rw [hf]
  exact ByteArray.append_empty
 exact ⟨hi, by simp only [e]; exact h.st, h.fol⟩
theorem FmOk.next {f : Nat → ByteArray} {n k : Nat} {s L : ByteArray} {o0 : Own} {tok0 : Nat → Bool} {nt0 i : Nat} {x y : AV} {o : Own} {tok : Nat → Bool} {nt t' : Nat} {tok' : Nat → Bool} {nt' : Nat} (h : FmOk f n k s o0 tok0 nt0 ⟨i, x, y, o, tok, nt⟩) (hi : i < n) (hf : f i = L) (hF : Fol o tok nt (.tok t') tok' nt') : FmOk f n k s o0 tok0 nt0 ⟨i + 1, .ptr k 0 0, bufA t' (s ++ catB f i ++ L), .tok t', tok', nt'⟩ := by
 have e : s ++ catB f (i + 1) = s ++ catB f i ++ L := by
  show s ++ (catB f i ++ f i) = _
  rw [hf, ByteArray.append_assoc]
 exact ⟨hi, by simp only [e]; exact wrote, h.fol.trans hF⟩
theorem FmOk.size {f : Nat → ByteArray} {n : Nat} {s : ByteArray} (h : ∀ i, (f i).size ≤ 3000) {i : Nat} (hi : i ≤ n) (hn : n ≤ 40) : (s ++ catB f i).size ≤ s.size + 120000 := by
 have := catB_size h i
 rw [ByteArray.size_append]
 omega
theorem nmAt_size {nm : List ByteArray} (h : ∀ x ∈ nm, x.size ≤ 3) (i : Int) : (nmAt nm i).size ≤ 3 := by
 unfold nmAt
 by_cases hi : i.toNat < nm.length
 ·rw [List.getD_eq_getElem?_getD, List.getElem?_eq_getElem hi]
  exact h _ (List.getElem_mem hi)
 ·rw [List.getD_eq_getElem?_getD, List.getElem?_eq_none (by omega)]
  exact Nat.zero_le _
def fmB1 (t : Ty) (g : Gr) (m : Mo) (nm : List ByteArray) (nb k : Nat) (box : Bxs) (a : FmX) : AState :=
 ⟨tl [(22, I a.i), (21, I g.nodes.length), (20, .d (ints g.nodes)), (8, .d (strs nm)), (7, .ptr (nb + 7) 0 0), (6, .ptr (nb + 6) 0 0), (5, .ptr (nb + 5) 0 0), (0, .ptr k 0 0)], lb nb (upd box k (some [[a.x, a.y]])) [(7, [[.d (ints m.nodes), .d (ints m.edges)]]), (6, [[.d (ints g.nodes), .d (AM.edges g.edges)]]), (5, [[.d (nts t.nodes), .d (ets t.edges)]])], a.tok, a.nt⟩
def fmB2 (t : Ty) (g : Gr) (m : Mo) (nm : List ByteArray) (nb k : Nat) (box : Bxs) (a : FmX) : AState :=
 ⟨tl [(52, I a.i), (51, I g.edges.length), (50, .d (AM.edges g.edges)), (8, .d (strs nm)), (7, .ptr (nb + 7) 0 0), (6, .ptr (nb + 6) 0 0), (5, .ptr (nb + 5) 0 0), (0, .ptr k 0 0)], lb nb (upd box k (some [[a.x, a.y]])) [(7, [[.d (ints m.nodes), .d (ints m.edges)]]), (6, [[.d (ints g.nodes), .d (AM.edges g.edges)]]), (5, [[.d (nts t.nodes), .d (ets t.edges)]])], a.tok, a.nt⟩
structure FmH (t : Ty) (g : Gr) (m : Mo) : Prop where
 ty : t.Fit
 nd : ∀ i, (t.nd i).name.size ≤ 1000
 ed : ∀ i, (t.ed i).name.size ≤ 1000
 gn : g.nodes.length ≤ 40
 ge : g.edges.length ≤ 40
 mn : m.nodes.length ≤ 40
 me : m.edges.length ≤ 40
 rn : ∀ x ∈ m.nodes, 0 ≤ x ∧ x < g.nodes.length
 dn : m.nodes.Nodup
 kn : ∀ x ∈ g.nodes, 0 ≤ x ∧ x < t.nodes.length
 ke : ∀ e ∈ g.edges, 0 ≤ e.ty ∧ e.ty < t.edges.length ∧ 0 ≤ e.fr ∧ e.fr < g.nodes.length ∧ 0 ≤ e.to ∧ e.to < g.nodes.length
theorem nmsR_size {n : Nat} {images : List Int} (hn : n ≤ 40) (hi : images.length ≤ 40) : ∀ x ∈ nmsR n images, x.size ≤ 3 := by
 intro x hx
 unfold nmsR nm2 at hx
 obtain ⟨k, hk, rfl⟩ := List.mem_map.1 hx
 have hk := List.mem_range.1 hk
 have hc := cE_le images k
 split
 ·first
  | exact (nN_size (by unfold nxE; omega)).2
  | (rw [if_pos hk]; exact (nN_size (by unfold nxE; omega)).2)
 ·rcases indexI_spec images (k : Int) with ⟨h1, _⟩ | ⟨q, h2, h3, _⟩
  ·omega
  ·exact (nN_size (by omega)).2
theorem lnN_size {t : Ty} {g : Gr} {m : Mo} {nm : List ByteArray} (h : FmH t g m) (hn : ∀ x ∈ nm, x.size ≤ 3) (i : Nat) : (lnN t g m nm i).size ≤ 3000 := by
 unfold lnN
 split
 ·exact Nat.zero_le _
 ·have h1 := nmAt_size hn i
  have h2 := h.nd (g.nodes.getD i 0).toNat
  simp only [ByteArray.size_append, tNode, tCol, tEnd, bszW, List.size_toArray, List.length_cons, List.length_nil]
  omega
theorem lnE_size {t : Ty} {g : Gr} {m : Mo} {nm : List ByteArray} (h : FmH t g m) (hn : ∀ x ∈ nm, x.size ≤ 3) (i : Nat) : (lnE t g m nm i).size ≤ 3000 := by
 unfold lnE
 split
 ·exact Nat.zero_le _
 ·have h1 := nmAt_size hn (g.edges.getD i default).fr
  have h3 := nmAt_size hn (g.edges.getD i default).to
  have h2 := h.ed (g.edges.getD i default).ty.toNat
  simp only [ByteArray.size_append, tEdge, tSp, tEnd, bszW, List.size_toArray, List.length_cons, List.length_nil]
  omega
set_option maxRecDepth 100000 in
theorem linesK_c (t : Ty) (g : Gr) (m : Mo) (h : FmH t g m) (k nb : Nat) (box : Bxs) (tok : Tks) (nt : Nat) (x y : AV) (o : Own) (s : ByteArray) (hs : Wst BdT k s x y o) (hk : box k = some [[x, y]]) (hl : o.liveP tok) (hz : s.size ≤ 100000000) :
  ACalls Tryz.prog 76 [.ptr k 0 0, t.av, g.av, m.av] ⟨box, nb, tok, nt⟩ fun v m' => v = .tup [] ∧ ∃ x' y' o' tok' nt', Wst BdT k (s ++ lnsR t g m (nmsR g.nodes.length m.nodes)) x' y' o' ∧ Fol o tok nt o' tok' nt' ∧ m' = ⟨upd box k (some [[x', y']]), nb, tok', nt'⟩ := by
 have hn := nmsK_c g.nodes.length m.nodes (by have := h.gn; omega) (by have := h.mn; omega) h.rn h.dn
 have hns := nmsR_size h.gn h.mn
 have hnl : (nmsR g.nodes.length m.nodes).length = g.nodes.length := nm2_len _ _ _
 have hgn := h.gn
 have hge := h.ge
 have htn := h.ty.n
 have hte := h.ty.e
 have hself : box = upd box k (some [[x, y]]) := (upd_self box k _ hk).symm
 refine sB Tryz.func76 Tryz.ntmps76 ?_
 intro hbox htok
 simp only at hbox htok
 apply AL.start
 have kn := key_lt hbox hk
 try (simp)
 repeat (refine sR ?_; simp)
 refine Stop.of_d (hn _ _) ?_
 simp
 unfold lnsR
 generalize nmsR g.nodes.length m.nodes = nm at *
 try (simp)
 repeat (first | (refine sR ?_; simp) | (refine sC ?_; simp) | (refine sX ?_; simp only [AU, ↓reduceIte]))
 refine sN ?_
 have hlb : ∀ loc, lb nb box loc = lb nb (upd box k (some [[x, y]])) loc := fun loc => by rw [← hself]
 rw [hlb]
 refine AL.loopT (fmB1 t g m nm nb k box) (FmOk (lnN t g m nm) g.nodes.length k s o tok nt) (fun a => g.nodes.length - a.i) ⟨0, x, y, o, tok, nt⟩ ⟨Nat.zero_le _, by simp only [catB]; rw [show s ++ ⟨#[]⟩ = s from ByteArray.append_empty]; exact hs, Fol.refl hl⟩ (Weaks.mk' (Nat.le_refl _) (by simp [ToL, lk]; exact to_ptr (by rw [lb_out kn, upd_same]; simp)) (by simp [BoxL, lk]) (outG (wst_okW hs (by rw [lb_out kn, upd_same]; simp) (fun _ => trivial)))) ?_
 rintro ⟨i, x1, y1, o1, tok1, nt1⟩ S hok hS
 simp only [fmB1] at hS
 subst hS
 have hii := hok.le
 simp only at hii
 have hw := sW (i := i) (by omega)
 by_cases hlt : i < g.nodes.length
 ·have hc := contains_c m.nodes i (by have := h.mn; omega)
  obtain ⟨z1, z2⟩ := h.kn _ (List.getElem_mem hlt)
  try (simp [hlt])
  repeat (first | (refine sR ?_; simp [hlt]) | (refine sC ?_; simp [hlt]) | (refine sX ?_; simp only [AU, ↓reduceIte]))
  refine Stop.of_d (hc _ _) ?_
  simp
  cases e : decide ((i : Int) ∈ m.nodes)
  ·have hin : i < nm.length := by omega
   have z3 : g.nodes[i].toNat < t.nodes.length := by omega
   have hnt : t.nd g.nodes[i].toNat = t.nodes[g.nodes[i].toNat] := by simp [Ty.nd, z3]
   have hf : lnN t g m nm i = ⟨#[32, 32, 110, 111, 100, 101, 32]⟩ ++ nm[i] ++ ⟨#[32, 58, 32]⟩ ++ t.nodes[g.nodes[i].toNat].name ++ ⟨#[32, 59, 10]⟩ := by
    unfold lnN
    rw [if_neg (by simpa using e)]
    simp [nmAt, hin, hlt, hnt, tNode, tCol, tEnd]
   have hsz := lnN_size h hns i
   have hA := hns _ (List.getElem_mem hin)
   have hB := h.nd g.nodes[i].toNat
   rw [hnt] at hB
   have hS := FmOk.size (s := s) (lnN_size h hns) hii (by omega)
   have l1 : (⟨#[32, 32, 110, 111, 100, 101, 32]⟩ : ByteArray).size = 7 := rfl
   have l2 : (⟨#[32, 58, 32]⟩ : ByteArray).size = 3 := rfl
   have l3 : (⟨#[32, 59, 10]⟩ : ByteArray).size = 3 := rfl
   have hL : (⟨#[32, 32, 110, 111, 100, 101, 32]⟩ ++ nm[i] ++ ⟨#[32, 58, 32]⟩ ++ t.nodes[g.nodes[i].toNat].name ++ ⟨#[32, 59, 10]⟩ : ByteArray).size = 7 + nm[i].size + 3 + t.nodes[g.nodes[i].toNat].name.size + 3 := by simp only [ByteArray.size_append, l1, l2, l3]
   have hwr := fun (bx : Bxs) nb' (hb : bx k = some [[x1, y1]]) => writeS_c BdT liesB k nb' bx tok1 nt1 x1 y1 o1 (s ++ catB (lnN t g m nm) i) ( ⟨#[32, 32, 110, 111, 100, 101, 32]⟩ ++ nm[i] ++ ⟨#[32, 58, 32]⟩ ++ t.nodes[g.nodes[i].toNat].name ++ ⟨#[32, 59, 10]⟩) hok.st hb hok.fol.live (by rw [hL]; omega) (by rw [hL]; omega)
   simp
   refine sC ?_
   simp
   refine sN ?_
   refine AL.splitL (by rfl) (by rfl) follows_Tryz (Nat.le_refl _) (by kernel_rfl) ?_
   simp [hlt, hin, z1, z2, z3, lb_out kn]
   refine ⟨by omega, by omega, by omega, by omega, ?_⟩
   refine Stop.of_a (hwr _ _ ?_) ?_
   ·simp [lb_out kn, upd_same]
   rintro v m' ⟨rfl, t', tok', nt', hF, rfl⟩
   have hnx := hok.next hlt hf hF
   simp [upd_lb_out kn, upd_upd]
   try (simp [hw])
   repeat (first | (refine sR ?_; simp [hw]) | (refine sC ?_; simp [hw]) | (refine sX ?_; simp only [AU, ↓reduceIte]))
   refine sE ?_
   exact ⟨_, hnx, by show g.nodes.length - (i + 1) < g.nodes.length - i; omega, Weaks.mk' hnx.fol.le (by simp [ToL, lk]; exact to_ptr (by rw [lb_out kn, upd_same]; simp)) (by simp [BoxL, lk]) (outG (wst_okW hnx.st (by rw [lb_out kn, upd_same]; simp) (fun _ => trivial)))⟩
  ·have hf : lnN t g m nm i = ⟨#[]⟩ := by unfold lnN; rw [if_pos (by simpa using e)]
   have hsk := hok.skip hlt hf
   try (simp [hw])
   repeat (first | (refine sR ?_; simp [hw]) | (refine sC ?_; simp [hw]) | (refine sX ?_; simp only [AU, ↓reduceIte]))
   refine sE ?_
   exact ⟨⟨i + 1, x1, y1, o1, tok1, nt1⟩, hsk, by simp only; omega, Weaks.mk' hok.fol.le (by simp [ToL, lk]; exact to_ptr (by rw [lb_out kn, upd_same]; simp)) (by simp [BoxL, lk]) (outG (wst_okW hok.st (by rw [lb_out kn, upd_same]; simp) (fun _ => trivial)))⟩
 ·have : i = g.nodes.length := by omega
  subst this
  have hS0 := FmOk.size (s := s) (lnN_size h hns) (Nat.le_refl g.nodes.length) (by omega)
  have hok2 : FmOk (lnE t g m nm) g.edges.length k (s ++ catB (lnN t g m nm) g.nodes.length) o tok nt ⟨0, x1, y1, o1, tok1, nt1⟩ := ⟨Nat.zero_le _, by simp only [catB]; rw [show (s ++ catB (lnN t g m nm) g.nodes.length) ++ ⟨#[]⟩ = s ++ catB (lnN t g m nm) g.nodes.length from ByteArray.append_empty]; exact hok.st, hok.fol⟩
  clear hok
  rw [← ByteArray.append_assoc]
  generalize s ++ catB (lnN t g m nm) g.nodes.length = s2 at *
  try (simp)
  repeat (first | (refine sR ?_; simp) | (refine sC ?_; simp) | (refine sX ?_; simp only [AU, ↓reduceIte]))
  refine sN ?_
  refine AL.loopT (fmB2 t g m nm nb k box) (FmOk (lnE t g m nm) g.edges.length k s2 o tok nt) (fun a => g.edges.length - a.i) ⟨0, x1, y1, o1, tok1, nt1⟩ hok2 (Weaks.mk' hok2.fol.le (by simp [ToL, lk]; exact to_ptr (by rw [lb_out kn, upd_same]; simp)) (by simp [BoxL, lk]) (outG (wst_okW hok2.st (by rw [lb_out kn, upd_same]; simp) (fun _ => trivial)))) ?_
  rintro ⟨i, x1, y1, o1, tok1, nt1⟩ S hok hS
  simp only [fmB2] at hS
  subst hS
  have hii := hok.le
  simp only at hii
  have hw := sW (i := i) (by omega)
  by_cases hlt : i < g.edges.length
  ·have hc := contains_c m.edges i (by have := h.me; omega)
   obtain ⟨z1, z2, f1, f2, g1, g2⟩ := h.ke _ (List.getElem_mem hlt)
   try (simp [hlt])
   repeat (first | (refine sR ?_; simp [hlt]) | (refine sC ?_; simp [hlt]) | (refine sX ?_; simp only [AU, ↓reduceIte]))
   refine Stop.of_d (hc _ _) ?_
   simp
   cases e : decide ((i : Int) ∈ m.edges)
   ·have f2' : g.edges[i].fr < nm.length := by omega
    have g2' : g.edges[i].to < nm.length := by omega
    have f3 : g.edges[i].fr.toNat < nm.length := by omega
    have g3 : g.edges[i].to.toNat < nm.length := by omega
    have z3 : g.edges[i].ty.toNat < t.edges.length := by omega
    have het : t.ed g.edges[i].ty.toNat = t.edges[g.edges[i].ty.toNat] := by simp [Ty.ed, z3]
    have hf : lnE t g m nm i = ⟨#[32, 32, 101, 100, 103, 101, 32]⟩ ++ nm[g.edges[i].fr.toNat] ++ ⟨#[32]⟩ ++ t.edges[g.edges[i].ty.toNat].name ++ ⟨#[32]⟩ ++ nm[g.edges[i].to.toNat] ++ ⟨#[32, 59, 10]⟩ := by
     unfold lnE
     rw [if_neg (by simpa using e)]
     simp [nmAt, f3, g3, hlt, het, tEdge, tSp, tEnd]
    have hsz := lnE_size h hns i
    have hA := hns _ (List.getElem_mem f3)
    have hA2 := hns _ (List.getElem_mem g3)
    have hB := h.ed g.edges[i].ty.toNat
    rw [het] at hB
    have hS := FmOk.size (s := s2) (lnE_size h hns) hii (by omega)
    have l1 : (⟨#[32, 32, 101, 100, 103, 101, 32]⟩ : ByteArray).size = 7 := rfl
    have l2 : (⟨#[32]⟩ : ByteArray).size = 1 := rfl
    have l3 : (⟨#[32, 59, 10]⟩ : ByteArray).size = 3 := rfl
    have hL : (⟨#[32, 32, 101, 100, 103, 101, 32]⟩ ++ nm[g.edges[i].fr.toNat] ++ ⟨#[32]⟩ ++ t.edges[g.edges[i].ty.toNat].name ++ ⟨#[32]⟩ ++ nm[g.edges[i].to.toNat] ++ ⟨#[32, 59, 10]⟩ : ByteArray).size = 7 + nm[g.edges[i].fr.toNat].size + 1 + t.edges[g.edges[i].ty.toNat].name.size + 1 + nm[g.edges[i].to.toNat].size + 3 := by simp only [ByteArray.size_append, l1, l2, l3]
    have hwr := fun (bx : Bxs) nb' (hb : bx k = some [[x1, y1]]) => writeS_c BdT liesB k nb' bx tok1 nt1 x1 y1 o1 (s2 ++ catB (lnE t g m nm) i) ( ⟨#[32, 32, 101, 100, 103, 101, 32]⟩ ++ nm[g.edges[i].fr.toNat] ++ ⟨#[32]⟩ ++ t.edges[g.edges[i].ty.toNat].name ++ ⟨#[32]⟩ ++ nm[g.edges[i].to.toNat] ++ ⟨#[32, 59, 10]⟩) hok.st hb hok.fol.live (by rw [hL]; omega) (by rw [hL]; omega)
    simp
    refine sC ?_
    simp
    refine sN ?_
    refine AL.splitL (by rfl) (by rfl) follows_Tryz (Nat.le_refl _) (by kernel_rfl) ?_
    simp [hlt, z1, z2, z3, f1, f2', f3, g1, g2', g3, lb_out kn]
    refine ⟨by omega, by omega, by omega, by omega, by omega, by omega, ?_⟩
    refine Stop.of_a (hwr _ _ ?_) ?_
    ·simp [lb_out kn, upd_same]
    rintro v m' ⟨rfl, t', tok', nt', hF, rfl⟩
    have hnx := hok.next hlt hf hF
    simp [upd_lb_out kn, upd_upd]
    try (simp [hw])
    repeat (first | (refine sR ?_; simp [hw]) | (refine sC ?_; simp [hw]) | (refine sX ?_; simp only [AU, ↓reduceIte]))
    refine sE ?_
    exact ⟨_, hnx, by show g.edges.length - (i + 1) < g.edges.length - i; omega, Weaks.mk' hnx.fol.le (by simp [ToL, lk]; exact to_ptr (by rw [lb_out kn, upd_same]; simp)) (by simp [BoxL, lk]) (outG (wst_okW hnx.st (by rw [lb_out kn, upd_same]; simp) (fun _ => trivial)))⟩
   ·have hf : lnE t g m nm i = ⟨#[]⟩ := by unfold lnE; rw [if_pos (by simpa using e)]
    have hsk := hok.skip hlt hf
    try (simp [hw])
    repeat (first | (refine sR ?_; simp [hw]) | (refine sC ?_; simp [hw]) | (refine sX ?_; simp only [AU, ↓reduceIte]))
    refine sE ?_
    exact ⟨⟨i + 1, x1, y1, o1, tok1, nt1⟩, hsk, by simp only; omega, Weaks.mk' hok.fol.le (by simp [ToL, lk]; exact to_ptr (by rw [lb_out kn, upd_same]; simp)) (by simp [BoxL, lk]) (outG (wst_okW hok.st (by rw [lb_out kn, upd_same]; simp) (fun _ => trivial)))⟩
  ·have : i = g.edges.length := by omega
   subst this
   try (simp)
   repeat (first | (refine sR ?_; simp) | (refine sC ?_; simp) | (refine sX ?_; simp only [AU, ↓reduceIte]))
   refine sE ?_
   refine ⟨by simp, (Fin.gen (vs := []) (av := .tup []) (tok' := tok1) (nt' := nt1) (by simp [resAs, resA]) (by rw [← upd_lb_out kn, hbox]) hok.fol.le (Nat.le_refl _) (fun t h => ⟨h, .inl rfl⟩) (outG (wst_okW hok.st (by simp [upd_same, lb_out kn]) (fun _ => .inl rfl))) (by simp [packA])).mono fun v m' hq => ⟨hq.1, x1, y1, o1, hok.st, tok1, nt1, hok.fol, hq.2⟩⟩
end Go.AM
namespace Go.AM
open Go Go.Proofs
theorem nameB_size {s : ByteArray} (h : nameB s = true) : s.size ≤ 20 := by
 simp only [nameB, Bool.and_eq_true, decide_eq_true_eq] at h
 exact h.1.1.2
theorem nodE_name {t : Ty} {i : Nat} (h : nodE t i = 0) : nameB (t.nd i).name = true := by
 unfold nodE at h
 split at h
 ·cases h
 ·rename_i h1; simpa using h1
theorem edgE_name {t : Ty} {i : Nat} (h : edgE t i = 0) : nameB (t.ed i).name = true := by
 unfold edgE at h
 split at h
 ·cases h
 ·rename_i h1; simpa using h1
theorem tyE_nd {t : Ty} (h : tyE t = 0) (i : Nat) : (t.nd i).name.size ≤ 1000 := by
 by_cases hi : i < t.nodes.length
 ·unfold tyE at h
  split at h
  ·cases h
  ·split at h
   ·cases h
   ·split at h
    ·cases h
    ·split at h
     ·rename_i h1; exact absurd h h1
     ·rename_i h1
      have := nameB_size (nodE_name (firstE_allZ _ (Decidable.not_not.1 h1) i hi))
      omega
 ·have : t.nd i = default := by simp [Ty.nd, List.getElem?_eq_none (show t.nodes.length ≤ i by omega)]
  rw [this]
  exact Nat.zero_le _
theorem tyE_ed {t : Ty} (h : tyE t = 0) (i : Nat) : (t.ed i).name.size ≤ 1000 := by
 by_cases hi : i < t.edges.length
 ·unfold tyE at h
  split at h
  ·cases h
  ·split at h
   ·cases h
   ·split at h
    ·cases h
    ·split at h
     ·rename_i h1; exact absurd h h1
     ·have := nameB_size (edgE_name (firstE_allZ _ h i hi))
      omega
 ·have : t.ed i = default := by simp [Ty.ed, List.getElem?_eq_none (show t.edges.length ≤ i by omega)]
  rw [this]
  exact Nat.zero_le _
theorem validG_nodes {g : Gr} (h : validG g = 0) : ∀ x ∈ g.nodes, 0 ≤ x := by
 intro x hx
 unfold validG at h
 split at h
 ·cases h
 ·split at h
  ·cases h
  ·rename_i h2
   have := List.any_eq_false.1 (Bool.not_eq_true _ ▸ h2) x hx
   simp [withinB] at this
   omega
theorem fitB_in {t : Ty} {e a b : Int} (h : fitB t e a b = true) : 0 ≤ e ∧ e < t.edges.length := by
 unfold fitB at h
 split at h
 ·split at h
  ·split at h
   ·exact ⟨by assumption, by assumption⟩
   ·cases h
  ·cases h
 ·cases h
theorem lvs_gr {t : Ty} {g : Gr} (hv : validG g = 0) (h : lvsB t g = true) : (∀ x ∈ g.nodes, 0 ≤ x ∧ x < t.nodes.length) ∧ (∀ e ∈ g.edges, 0 ≤ e.ty ∧ e.ty < t.edges.length ∧ 0 ≤ e.fr ∧ e.fr < g.nodes.length ∧ 0 ≤ e.to ∧ e.to < g.nodes.length) := by
 unfold lvsB at h
 split at h
 ·rename_i h1
  have h0 := validG_nodes hv
  have h2 := validG_edges hv
  unfold allP at h h1
  rw [List.all_eq_true] at h h1
  refine ⟨fun x hx => ⟨h0 x hx, ?_⟩, fun e he => ?_⟩
  ·have := h1 x hx
   unfold lvN at this
   split at this
   ·cases this
   ·omega
  ·have h4 := fitB_in (h e he)
   exact ⟨h4.1, h4.2, h2 e he⟩
 ·cases h
theorem lrg_small {g : Gr} (h : lrgB g = false) : g.nodes.length ≤ 6 ∧ g.edges.length ≤ 8 := by
 unfold lrgB at h
 split at h
 ·cases h
 ·simp at h; omega
structure FmC0 (t : Ty) (c : Co) : Prop where
 name : c.name.size ≤ 20
 kind : c.kind = 1 ∨ c.kind = 2
 n : c.exts.length ≤ 6
 g : FmH t c.g ⟨[], []⟩
 x : ∀ x ∈ c.exts, FmH t x.g x.m
 s : c.g.nodes.length ≤ 6 ∧ c.g.edges.length ≤ 8
 xs : ∀ x ∈ c.exts, x.g.nodes.length ≤ 6 ∧ x.g.edges.length ≤ 8
theorem cnE_zero {t : Ty} {c : Co} (h : cnE t c = 0) : tyE t = 0 ∧ shpE c = 0 ∧ lvX t c = true := by
 unfold cnE at h
 split at h
 ·rename_i h1; exact absurd h h1
 ·rename_i h1
  split at h
  ·rename_i h2; exact absurd h h2
  ·rename_i h2
   split at h
   ·rename_i h3; exact ⟨Decidable.not_not.1 h1, Decidable.not_not.1 h2, h3⟩
   ·cases h
theorem fmC0 {t : Ty} {c : Co} (ht : t.Fit) (h : cnE t c = 0) : FmC0 t c := by
 obtain ⟨h1, h2, h3⟩ := cnE_zero h
 obtain ⟨n1, n2, n3, n4, n5⟩ := shpE_zero h2
 unfold lvX at h3
 split at h3
 ·rename_i l1
  unfold allP at h3
  rw [List.all_eq_true] at h3
  obtain ⟨k1, k2⟩ := lvs_gr n3 l1
  obtain ⟨k3, k4⟩ := lrg_small n4
  refine ⟨nameB_size n1, shpE_kind h2, ?_, ⟨ht, tyE_nd h1, tyE_ed h1, by omega, by omega, by simp, by simp, by simp, by simp, k1, k2⟩, fun x hx => ?_, ⟨k3, k4⟩, fun x hx => lrg_small (n5 x hx).2.1⟩
  ·unfold kdE at n2
   split at n2
   ·split at n2
    ·rename_i e; rw [e]; exact Nat.zero_le _
    ·cases n2
   ·split at n2
    ·split at n2
     ·cases n2
     ·split at n2
      ·cases n2
      ·omega
    ·cases n2
  ·obtain ⟨m1, m2, m3⟩ := n5 x hx
   have vm := validM_VM m1
   obtain ⟨q1, q2⟩ := lvs_gr vm.vb (h3 x hx)
   obtain ⟨q3, q4⟩ := lrg_small m2
   obtain ⟨_, d1, d2⟩ := (injM_iff _ _ _).1 m3
   have b1 := nodup_bound d1 vm.n
   have b2 := nodup_bound d2 vm.e
   exact ⟨ht, tyE_nd h1, tyE_ed h1, by omega, by omega, by omega, by omega, vm.n, d1, q1, q2⟩
 ·cases h3
def tFor : ByteArray := ⟨#[102, 111, 114, 98, 105, 100, 32]⟩
def tReq : ByteArray := ⟨#[114, 101, 113, 117, 105, 114, 101, 32]⟩
def tOpen : ByteArray := ⟨#[32, 123, 10]⟩
def tSome : ByteArray := ⟨#[125, 32, 115, 111, 109, 101, 32, 123, 10]⟩
def tOr : ByteArray := ⟨#[125, 32, 111, 114, 32, 123, 10]⟩
def tClose : ByteArray := ⟨#[125, 10]⟩
def hdB (c : Co) : ByteArray := (if c.kind = 2 then tReq else tFor) ++ c.name ++ tOpen
def grB (t : Ty) (g : Gr) (m : Mo) : ByteArray := lnsR t g m (nmsR g.nodes.length m.nodes)
def sepB (i : Nat) : ByteArray := if i = 0 then tSome else tOr
def xtB (t : Ty) (c : Co) (i : Nat) : ByteArray := match c.exts[i]? with | some x => sepB i ++ grB t x.g x.m | none => ⟨#[]⟩
theorem xtB_at {t : Ty} {c : Co} {i : Nat} (h : i < c.exts.length) : xtB t c i = sepB i ++ grB t c.exts[i].g c.exts[i].m := by simp [xtB, h]
def fmT (t : Ty) (c : Co) : ByteArray := hdB c ++ grB t c.g ⟨[], []⟩ ++ catB (xtB t c) c.exts.length ++ tClose
def fmR (t : Ty) (c : Co) : ByteArray × Int := if cnE t c ≠ 0 then (⟨#[]⟩, cnE t c) else (fmT t c, 0)
theorem catB_sizeM {f : Nat → ByteArray} {M : Nat} (h : ∀ i, (f i).size ≤ M) : ∀ k, (catB f k).size ≤ k * M
 | 0 => Nat.zero_le _
 | k + 1 => by
  unfold catB
  rw [ByteArray.size_append, Nat.succ_mul]
  have h1 := catB_sizeM h k
  have h2 := h k
  omega
theorem grB_size {t : Ty} {g : Gr} {m : Mo} (h : FmH t g m) (hs : g.nodes.length ≤ 6 ∧ g.edges.length ≤ 8) : (grB t g m).size ≤ 42000 := by
 have hns := nmsR_size h.gn h.mn
 unfold grB lnsR
 rw [ByteArray.size_append]
 have h1 := catB_size (lnN_size h hns) g.nodes.length
 have h2 := catB_size (lnE_size h hns) g.edges.length
 omega
theorem sepB_size (i : Nat) : 0 < (sepB i).size ∧ (sepB i).size ≤ 9 := by
 unfold sepB
 split
 ·exact ⟨by decide, by decide⟩
 ·exact ⟨by decide, by decide⟩
theorem xtB_size {t : Ty} {c : Co} (h : FmC0 t c) (i : Nat) : (xtB t c i).size ≤ 42009 := by
 by_cases hi : i < c.exts.length
 ·rw [xtB_at hi, ByteArray.size_append]
  have h1 := grB_size (h.x _ (List.getElem_mem hi)) (h.xs _ (List.getElem_mem hi))
  have h2 := (sepB_size i).2
  omega
 ·have : xtB t c i = ⟨#[]⟩ := by simp [xtB, List.getElem?_eq_none (show c.exts.length ≤ i by omega)]
  rw [this]
  exact Nat.zero_le _
theorem hdB_size {t : Ty} {c : Co} (h : FmC0 t c) : 0 < (hdB c).size ∧ (hdB c).size ≤ 31 := by
 have h1 := h.name
 have z1 : tFor.size = 7 := rfl
 have z2 : tReq.size = 8 := rfl
 have z3 : tOpen.size = 3 := rfl
 unfold hdB
 split <;> (rw [ByteArray.size_append, ByteArray.size_append]; omega)
end Go.AM
