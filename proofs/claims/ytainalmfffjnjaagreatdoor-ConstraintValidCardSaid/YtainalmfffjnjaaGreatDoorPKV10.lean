/-
 Parts of the proof, as merged from many texts: a machine over data, what the functions compute, plain laws.
-/
import Derived.Test.YtainalmfffjnjaaGreatDoorPKV9
import Derived.Shelf.Small.Strs
import Derived.Shelf.Strconv.Itoa0
import Derived.Shelf.Strconv.Itoa1
import Derived.Shelf.Strconv.Itoa2
import Derived.Shelf.Strconv.Itoa3
import Derived.Shelf.LaysM
import Derived.Ground.Names2Prog
import Derived.Test.YtainalmfffjnjaaGreatDoorProg
import Derived.WalkKit
import Derived.ProofKit
import Derived.OpenShut
import Derived.ChangeStays
import Derived.SizedLaws
set_option linter.unusedSimpArgs false
set_option linter.unusedVariables false
namespace Go.AM
open Go Go.Proofs
abbrev Co.cells (c : Co) : List D := [.raw (.string c.name), .raw (.int .i64 c.kind), ints c.g.nodes, AM.edges c.g.edges, xts c.exts]
abbrev rCo (l : List Co) : List (List D) := l.map Co.cells
def cntO (c : List Int) : Nat := (c.filter (· != -1)).length
def gAtL (c : List Int) : List Int := (List.range c.length).map fun i => if c.getD i 0 = -1 then 0 else (1 : Int) + cntO (c.take i)
def greG (s : Sd) (node : Int) (cls c : List Int) : Gr := ⟨node :: c.filter (· != -1), cls.map fun k => s.link ((gAtL c).getD k.toNat 0)⟩
def greC (s : Sd) (node : Int) (cls c : List Int) : Co := ⟨⟨#[]⟩, 1, greG s node cls c, []⟩
def greP (s : Sd) (node : Int) (ends p : List Int) : List Co := (choR ends (numN p p.length).2.toNat).map (greC s node (numN p p.length).1)
def greL (s : Sd) (node : Int) (ends : List Int) : List Co := (partsN (s.high.toNat + 1)).flatMap (greP s node ends)
def grK (s : Sd) (node : Int) (ends : List Int) (P : List (List Int)) (i : Nat) (cls : List Int) (L : List (List Int)) (k : Nat) : List Co := (P.take i).flatMap (greP s node ends) ++ (L.take k).map (greC s node cls)
theorem grK_zero (s : Sd) (node : Int) (ends : List Int) (P : List (List Int)) (i : Nat) (cls : List Int) (L : List (List Int)) : grK s node ends P i cls L 0 = grK s node ends P i [] [] 0 := by simp [grK]
theorem grK_succ {s : Sd} {node : Int} {ends : List Int} {P : List (List Int)} {i : Nat} {cls : List Int} {L : List (List Int)} {k : Nat} (h : k < L.length) : grK s node ends P i cls L (k + 1) = grK s node ends P i cls L k ++ [greC s node cls L[k]] := by
 unfold grK
 rw [List.take_succ_eq_append_getElem h, List.map_append, List.append_assoc]
 rfl
theorem grK_next {s : Sd} {node : Int} {ends : List Int} {P : List (List Int)} {i : Nat} (h : i < P.length) : grK s node ends P i (numN P[i] P[i].length).1 (choR ends (numN P[i] P[i].length).2.toNat) (choR ends (numN P[i] P[i].length).2.toNat).length = grK s node ends P (i + 1) [] [] 0 := by
 unfold grK
 rw [List.take_length, List.take_succ_eq_append_getElem h, List.flatMap_append]
 simp [greP]
def stG1 (s : Sd) (node : Int) (ends : List Int) (P : List (List Int)) (nb : Nat) (box : Bxs) (x : Acc) : AState :=
 ⟨tl [(36, I x.i), (35, I P.length), (34, .d (lists P)), (10, .osl 5 (rCo (grK s node ends P x.i [] [] 0)) x.own), (1, I node), (2, .d (ints ends)), (3, .ptr (nb + 3) 0 0)], lb nb box [(3, [[I s.k, B s.o, I s.near, I s.far, I s.low, I s.high]])], x.tok, x.nt⟩
def stG2 (s : Sd) (node : Int) (ends : List Int) (P : List (List Int)) (i : Nat) (cls : List Int) (n : Nat) (nb : Nat) (box : Bxs) (x : Acc) : AState :=
 ⟨tl [(53, I x.i), (52, I (choR ends n).length), (51, .d (lists (choR ends n))), (13, .d (ints cls)), (14, I n), (36, I i), (35, I P.length), (34, .d (lists P)), (10, .osl 5 (rCo (grK s node ends P i cls (choR ends n) x.i)) x.own), (1, I node), (2, .d (ints ends)), (3, .ptr (nb + 3) 0 0)], lb nb box [(3, [[I s.k, B s.o, I s.near, I s.far, I s.low, I s.high]])], x.tok, x.nt⟩
def atL (c : List Int) (j : Nat) : List Int := (List.range c.length).map fun i => if i < j then (if c.getD i 0 = -1 then 0 else (1 : Int) + cntO (c.take i)) else 0
theorem atL_len (c : List Int) (j : Nat) : (atL c j).length = c.length := by simp [atL]
theorem atL_zero (c : List Int) : List.replicate c.length 0 = atL c 0 := by
 refine List.ext_getElem (by simp [atL]) fun i h1 h2 => ?_
 simp [atL]
theorem atL_end (c : List Int) : atL c c.length = gAtL c := by
 refine List.ext_getElem (by simp [atL, gAtL]) fun i h1 h2 => ?_
 have hi : i < c.length := by simpa [atL] using h1
 simp [atL, gAtL, hi]
theorem atL_set {c : List Int} {j : Nat} (h : j < c.length) (h1 : c[j] ≠ -1) : (atL c j).set j ((1 : Int) + cntO (c.take j)) = atL c (j + 1) := by
 refine List.ext_getElem (by simp [atL]) fun i a b => ?_
 rw [List.getElem_set]
 have hi : i < c.length := by simpa [atL] using a
 simp only [atL, List.getElem_map, List.getElem_range]
 by_cases e : j = i
 ·subst e
  rw [if_pos rfl, if_pos (Nat.lt_succ_self _), if_neg (by simpa [hi] using h1)]
 ·rw [if_neg e]
  by_cases h2 : i < j
  ·rw [if_pos h2, if_pos (show i < j + 1 by omega)]
  ·rw [if_neg h2, if_neg (show ¬ i < j + 1 by omega)]
theorem atL_skip {c : List Int} {j : Nat} (h : j < c.length) (h1 : c[j] = -1) : atL c j = atL c (j + 1) := by
 refine List.ext_getElem (by simp [atL]) fun i a b => ?_
 have hi : i < c.length := by simpa [atL] using a
 simp only [atL, List.getElem_map, List.getElem_range]
 by_cases e : j = i
 ·subst e
  rw [if_neg (by omega), if_pos (Nat.lt_succ_self _), if_pos (by simpa [hi] using h1)]
 ·by_cases h2 : i < j
  ·rw [if_pos h2, if_pos (show i < j + 1 by omega)]
  ·rw [if_neg h2, if_neg (show ¬ i < j + 1 by omega)]
def ndL (node : Int) (c : List Int) (j : Nat) : List Int := node :: (c.take j).filter (· != -1)
theorem ndL_len (node : Int) (c : List Int) (j : Nat) : (ndL node c j).length = 1 + cntO (c.take j) := by simp [ndL, cntO]; omega
theorem cntO_le (c : List Int) : cntO c ≤ c.length := List.length_filter_le _ _
theorem ndL_skip {node : Int} {c : List Int} {j : Nat} (h : j < c.length) (h1 : c[j] = -1) : ndL node c (j + 1) = ndL node c j := by
 unfold ndL
 rw [List.take_succ_eq_append_getElem h, List.filter_append]
 simp [h1]
theorem ndL_succ {node : Int} {c : List Int} {j : Nat} (h : j < c.length) (h1 : c[j] ≠ -1) : ndL node c (j + 1) = ndL node c j ++ [c[j]] := by
 unfold ndL
 rw [List.take_succ_eq_append_getElem h, List.filter_append]
 simp [h1]
def stG3 (s : Sd) (node : Int) (ends : List Int) (P : List (List Int)) (i : Nat) (cls : List Int) (n k : Nat) (c : List Int) (own : Own) (nb : Nat) (box : Bxs) (x : Acc) : AState :=
 ⟨tl [(64, I x.i), (63, I c.length), (62, .d (ints c)), (19, .msl (nb + 61) 0 n 1), (18, .ptr (nb + 18) 0 0), (53, I k), (52, I (choR ends n).length), (51, .d (lists (choR ends n))), (13, .d (ints cls)), (14, I n), (36, I i), (35, I P.length), (34, .d (lists P)), (10, .osl 5 (rCo (grK s node ends P i cls (choR ends n) k)) own), (1, I node), (2, .d (ints ends)), (3, .ptr (nb + 3) 0 0)],
  lb nb box [(61, rowsI (atL c x.i)), (18, [[.osl 1 (rI (ndL node c x.i)) x.own, .osl 3 [] .full]]), (3, [[I s.k, B s.o, I s.near, I s.far, I s.low, I s.high]])], x.tok, x.nt⟩
def lkL (s : Sd) (c cls : List Int) (q : Nat) : List E := (cls.take q).map fun k => s.link ((gAtL c).getD k.toNat 0)
theorem lkL_succ {s : Sd} {c cls : List Int} {q : Nat} (h : q < cls.length) : lkL s c cls (q + 1) = lkL s c cls q ++ [s.link ((gAtL c).getD cls[q].toNat 0)] := by
 unfold lkL
 rw [List.take_succ_eq_append_getElem h, List.map_append]
 rfl
theorem lkL_len (s : Sd) (c cls : List Int) (q : Nat) : (lkL s c cls q).length ≤ q := by unfold lkL; rw [List.length_map, List.length_take]; omega
def stG4 (s : Sd) (node : Int) (ends : List Int) (P : List (List Int)) (i : Nat) (cls : List Int) (n k : Nat) (c : List Int) (own : Own) (nb : Nat) (box : Bxs) (x : Acc) : AState :=
 ⟨tl [(86, I x.i), (85, I cls.length), (84, .d (ints cls)), (19, .msl (nb + 61) 0 n 1), (18, .ptr (nb + 18) 0 0), (53, I k), (52, I (choR ends n).length), (51, .d (lists (choR ends n))), (13, .d (ints cls)), (14, I n), (36, I i), (35, I P.length), (34, .d (lists P)), (10, .osl 5 (rCo (grK s node ends P i cls (choR ends n) k)) own), (1, I node), (2, .d (ints ends)), (3, .ptr (nb + 3) 0 0)],
  lb nb box [(61, rowsI (gAtL c)), (18, [[.d (ints (ndL node c c.length)), .osl 3 (rE (lkL s c cls x.i)) x.own]]), (3, [[I s.k, B s.o, I s.near, I s.far, I s.low, I s.high]])], x.tok, x.nt⟩
theorem flat_leM {α β : Type} (f : α → List β) (B : Nat) : ∀ L : List α, (∀ x ∈ L, (f x).length ≤ B) → (L.flatMap f).length ≤ L.length * B
 | [], _ => by simp
 | x :: L, h => by
  rw [List.flatMap_cons, List.length_append, List.length_cons, Nat.succ_mul]
  have h1 := h x (by simp)
  have h2 := flat_leM f B L fun y hy => h y (by simp [hy])
  omega
theorem grK_len {s : Sd} {node : Int} {ends : List Int} {P : List (List Int)} {i k : Nat} {cls : List Int} {L : List (List Int)} (hn : ends.length ≤ 100) (hP : P.length ≤ 5) (hl : ∀ p ∈ P, p.length ≤ 3) (hL : L.length ≤ 1000000) : (grK s node ends P i cls L k).length ≤ 6000000 := by
 unfold grK
 rw [List.length_append, List.length_map, List.length_take]
 have h1 := flat_leM (greP s node ends) 1000000 (P.take i) fun p hp => by
  have hp := hl p (List.mem_of_mem_take hp)
  unfold greP
  rw [List.length_map]
  obtain ⟨q1, q2, q3⟩ := numN_len p p.length
  exact choR_len3 hn (by omega)
 rw [List.length_take] at h1
 have h2 : min i P.length * 1000000 ≤ 5 * 1000000 := Nat.mul_le_mul_right _ (by omega)
 omega
theorem greatestP_c (s : Sd) (node : Int) (ends : List Int) (hn : ends.length ≤ 100) (h0 : 0 ≤ s.high) (h2 : s.high ≤ 2) (tok : Tks) (nt : Nat) : DCall Tryz.prog 105 [s.av, I node, .d (ints ends)] tok nt (.tup [.d (.sl 5 (rCo (greL s node ends))), I 0]) tok nt := by
 intro box nb
 obtain ⟨h, hh⟩ := Int.eq_ofNat_of_zero_le h0
 have hpa := all45_c (h + 1) (by omega)
 have hw1 : IntKind.i64.wrap (s.high + 1) = ((h + 1 : Nat) : Int) := by rw [hh, wrap_in (by omega) (by omega)]; rfl
 have hR : greL s node ends = (partsN (h + 1)).flatMap (greP s node ends) := by unfold greL; rw [hh]; rfl
 have hPl : (partsN (h + 1)).length ≤ 5 := by
  have : h = 0 ∨ h = 1 ∨ h = 2 := by omega
  rcases this with rfl | rfl | rfl <;> decide
 have hP1 := partsN_len (h + 1)
 have hP2 := partsN_partL (h + 1)
 refine sB Tryz.func105 Tryz.ntmps105 ?_
 intro hbox htok
 simp only at hbox htok
 apply AL.start
 try (simp [hw1])
 repeat (refine sR ?_; simp [hw1])
 refine Stop.of_d (hpa _ _) ?_
 simp
 rw [hR]
 generalize partsN (h + 1) = P at *
 try (simp)
 repeat (first | (refine sR ?_; simp) | (refine sC ?_; simp) | (refine sX ?_; simp only [AU, ↓reduceIte]))
 refine sN ?_
 refine AL.loopT (stG1 s node ends P nb box) (fun x => x.i ≤ P.length ∧ TK tok nt x.tok x.nt [x.own]) (fun x => P.length - x.i) ⟨0, .full, tok, nt⟩ ⟨Nat.zero_le _, (TK.start htok).full⟩ (Weaks.mk (Nat.le_refl _) rfl (by simp [ToL, lk, grK]) (by simp [BoxL, lk])) ?_
 rintro ⟨i, own, tok', nt'⟩ S ⟨hi, htk⟩ hS
 simp only [stG1] at hS hi htk
 subst hS
 have hw := sW (i := i) (by omega)
 by_cases hlt : i < P.length
 ·have hpl := hP1 _ (List.getElem_mem hlt)
  have hpp := hP2 _ (List.getElem_mem hlt)
  have hq := quotient86_c P[i] (by omega) hpp
  have hnext := grK_next (s := s) (node := node) (ends := ends) hlt
  try (simp [hlt])
  repeat (first | (refine sR ?_; simp [hlt]) | (refine sC ?_; simp [hlt]) | (refine sX ?_; simp only [AU, ↓reduceIte]))
  refine Stop.of_d (hq _ _) ?_
  simp
  obtain ⟨q1, q2, q3⟩ := numN_len P[i] P[i].length
  obtain ⟨n, hn2⟩ := Int.eq_ofNat_of_zero_le q2
  have hn3 : n ≤ 3 := by omega
  have hrg := numN_range hpp P[i].length (Nat.le_refl _)
  have hn4 : (numN P[i] P[i].length).2.toNat = n := by omega
  rw [hn4] at hnext
  rw [hn2]
  have hch := choicesP_c ends n hn hn3
  have hcl := choR_len3 hn hn3
  have hcm := @choR_mem ends n
  have hcls : ∀ k ∈ (numN P[i] P[i].length).1, 0 ≤ k ∧ k < n := by
   intro k hk
   obtain ⟨j, hj, rfl⟩ := List.getElem_of_mem hk
   have := hrg j hj
   omega
  have hclen : (numN P[i] P[i].length).1.length ≤ 3 := by omega
  generalize (numN P[i] P[i].length).1 = cls at *
  try (simp)
  repeat (first | (refine sR ?_; simp) | (refine sC ?_; simp) | (refine sX ?_; simp only [AU, ↓reduceIte]))
  refine Stop.of_d (hch _ _) ?_
  simp
  try (simp)
  repeat (first | (refine sR ?_; simp) | (refine sC ?_; simp) | (refine sX ?_; simp only [AU, ↓reduceIte]))
  refine sN ?_
  refine AL.loopT (stG2 s node ends P i cls n nb box) (fun x => x.i ≤ (choR ends n).length ∧ TK tok nt x.tok x.nt [x.own]) (fun x => (choR ends n).length - x.i) ⟨0, own, tok', nt'⟩ ⟨Nat.zero_le _, htk⟩ (Weaks.mk htk.le rfl (by simp [ToL, lk, grK_zero]) (by simp [BoxL, lk])) ?_
  rintro ⟨k, own2, tok2, nt2⟩ S ⟨hi2, htk2⟩ hS
  simp only [stG2] at hS hi2 htk2
  subst hS
  have hw2 := sW (i := k) (by omega)
  by_cases hlk : k < (choR ends n).length
  ·have hs := grK_succ (s := s) (node := node) (ends := ends) (P := P) (i := i) (cls := cls) hlk
   have hcn := hcm (List.getElem_mem hlk)
   have hgk := grK_len (s := s) (node := node) (i := i) (k := k) (cls := cls) hn hPl (fun p hp => by have := hP1 p hp; omega) hcl
   have hg : (choR ends n)[k]?.getD [] = (choR ends n)[k] := by simp [hlk]
   try (simp [hlk])
   repeat (first | (refine sR ?_; simp [hlk]) | (refine sC ?_; simp [hlk]) | (refine sX ?_; simp only [AU, ↓reduceIte]))
   refine ⟨by omega, ?_⟩
   try (simp [hlk])
   repeat (first | (refine sR ?_; simp [hlk]) | (refine sC ?_; simp [hlk]) | (refine sX ?_; simp only [AU, ↓reduceIte]))
   generalize (choR ends n)[k] = c at *
   have haz := atL_zero c
   rw [hcn] at haz
   rw [haz]
   refine sN ?_
   refine AL.loopT (stG3 s node ends P i cls n k c own2 nb box) (fun x => x.i ≤ c.length ∧ TK tok nt x.tok x.nt [x.own, own2]) (fun x => c.length - x.i) ⟨0, .full, tok2, nt2⟩ ⟨Nat.zero_le _, htk2.full⟩ (Weaks.mk htk2.le rfl (by simp [ToL, lk]) (by simp [BoxL, lk, ndL])) ?_
   rintro ⟨j, own3, tok3, nt3⟩ S ⟨hi3, htk3⟩ hS
   simp only [stG3] at hS hi3 htk3
   subst hS
   have hw3 := sW (i := j) (by omega)
   have hal := atL_len c j
   have hnl := ndL_len node c j
   have hcl := cntO_le (c.take j)
   rw [List.length_take] at hcl
   by_cases hlj : j < c.length
   ·by_cases h1 : c[j] = -1
    ·have b1 : (c[j] != -1) = false := by simp [h1]
     have e1 := atL_skip hlj h1
     have e2 := ndL_skip (node := node) hlj h1
     try (simp [hlj, b1, hw3])
     repeat (first | (refine sR ?_; simp [hlj, b1, hw3]) | (refine sC ?_; simp [hlj, b1, hw3]) | (refine sX ?_; simp only [AU, ↓reduceIte]))
     refine sE ?_
     exact ⟨⟨j + 1, _, _, _⟩, ⟨hlj, htk3⟩, by simp only; omega, Weaks.mk htk3.le rfl (by simp [ToL, lk]) (by simp [BoxL, lk, ← e1, e2])⟩
    ·have b1 : (c[j] != -1) = true := by simp [h1]
     have e1 := atL_set hlj h1
     have e2 := ndL_succ (node := node) hlj h1
     have hjn : j < n := by omega
     have e3 : (atL c j).set j ((ndL node c j).length : Int) = atL c (j + 1) := by rw [hnl, ← e1]; simp
     have hbn : (ndL node c j).length ≤ 4 := by omega
     try (simp [hlj, b1, hal, hjn, hcn])
     repeat (first | (refine sR ?_; simp [hlj, b1, hal, hjn, hcn]) | (refine sC ?_; simp [hlj, b1, hal, hjn, hcn]) | (refine sX ?_; simp only [AU, ↓reduceIte]))
     refine ⟨⟨by omega, htk3.live⟩, ?_⟩
     try (simp [hw3])
     repeat (first | (refine sR ?_; simp [hw3]) | (refine sC ?_; simp [hw3]) | (refine sX ?_; simp only [AU, ↓reduceIte]))
     refine sE ?_
     exact ⟨⟨j + 1, _, _, _⟩, ⟨by simp only; omega, htk3.app⟩, by simp only; omega, Weaks.mk htk3.app.le rfl (by simp [ToL, lk, hcn]) (by simp [BoxL, lk, e3, e2])⟩
   ·have : j = c.length := by omega
    subst this
    try (simp)
    repeat (first | (refine sR ?_; simp) | (refine sC ?_; simp) | (refine sX ?_; simp only [AU, ↓reduceIte]))
    have hgl : (gAtL c).length = c.length := by rw [← atL_end]; exact hal
    rw [atL_end]
    refine sN ?_
    refine AL.loopT (stG4 s node ends P i cls n k c own2 nb box) (fun x => x.i ≤ cls.length ∧ TK tok nt x.tok x.nt [x.own, own2]) (fun x => cls.length - x.i) ⟨0, .full, tok3, nt3⟩ ⟨Nat.zero_le _, htk3.tail.full⟩ (Weaks.mk htk3.le rfl (by simp [ToL, lk]) (by simp [BoxL, lk, lkL])) ?_
    rintro ⟨q, own4, tok4, nt4⟩ S ⟨hi4, htk4⟩ hS
    simp only [stG4] at hS hi4 htk4
    subst hS
    have hw4 := sW (i := q) (by omega)
    have hll := lkL_len s c cls q
    by_cases hlq : q < cls.length
    ·obtain ⟨z1, z2⟩ := hcls _ (List.getElem_mem hlq)
     have hsq := lkL_succ (s := s) (c := c) hlq
     have z3 : cls[q].toNat < (gAtL c).length := by omega
     have hgd : (gAtL c).getD cls[q].toNat 0 = (gAtL c)[cls[q].toNat] := by simp [z3]
     rw [hgd] at hsq
     have hlk := linkP_c s (gAtL c)[cls[q].toNat]
     try (simp [hlq, z1, z2, z3, hgl, hcn])
     repeat (first | (refine sR ?_; simp [hlq, z1, z2, z3, hgl, hcn]) | (refine sC ?_; simp [hlq, z1, z2, z3, hgl, hcn]) | (refine sX ?_; simp only [AU, ↓reduceIte]))
     refine Stop.of_d (hlk _ _) ?_
     simp
     refine ⟨⟨by omega, htk4.live⟩, ?_⟩
     try (simp [hw4])
     repeat (first | (refine sR ?_; simp [hw4]) | (refine sC ?_; simp [hw4]) | (refine sX ?_; simp only [AU, ↓reduceIte]))
     refine sE ?_
     exact ⟨⟨q + 1, _, _, _⟩, ⟨hlq, htk4.app⟩, by simp only; omega, Weaks.mk htk4.app.le rfl (by simp [ToL, lk]) (by simp [BoxL, lk, hsq, hcn])⟩
    ·have : q = cls.length := by omega
     subst this
     have hfin : greC s node cls c = ⟨⟨#[]⟩, 1, ⟨ndL node c c.length, lkL s c cls cls.length⟩, []⟩ := by simp [greC, greG, ndL, lkL]
     rw [hfin] at hs
     try (simp)
     repeat (first | (refine sR ?_; simp) | (refine sC ?_; simp) | (refine sX ?_; simp only [AU, ↓reduceIte]))
     refine ⟨⟨by omega, htk4.swap.live⟩, ?_⟩
     try (simp [hw2])
     repeat (first | (refine sR ?_; simp [hw2]) | (refine sC ?_; simp [hw2]) | (refine sX ?_; simp only [AU, ↓reduceIte]))
     refine sE ?_
     refine ⟨⟨k + 1, _, _, _⟩, ⟨hlk, htk4.swap.app.swap.tail⟩, by simp only; omega, Weaks.mk htk4.swap.app.le rfl ?_ (by simp [BoxL, lk])⟩
     simp [ToL, lk, hs]
     refine to_snoc ?_ _
     simp [ints, AM.edges, xts]
  ·have : k = (choR ends n).length := by omega
   subst this
   rw [hnext]
   try (simp [hw])
   repeat (first | (refine sR ?_; simp [hw]) | (refine sC ?_; simp [hw]) | (refine sX ?_; simp only [AU, ↓reduceIte]))
   refine sE ?_
   exact ⟨⟨i + 1, _, _, _⟩, ⟨hlt, htk2⟩, by simp only; omega, Weaks.mk htk2.le rfl (by simp [ToL, lk]) (by simp [BoxL, lk])⟩
 ·have : i = P.length := by omega
  subst this
  try (simp)
  repeat (first | (refine sR ?_; simp) | (refine sC ?_; simp) | (refine sX ?_; simp only [AU, ↓reduceIte]))
  refine sN ?_
  refine AL.ret ?_
  try simp only [AU]
  have hend : grK s node ends P P.length [] [] 0 = P.flatMap (greP s node ends) := by simp [grK]
  rw [hend]
  exact ⟨by simp, Fin.data (av := .tup [.d (.sl 5 (rCo (P.flatMap (greP s node ends)))), I 0]) (by simp [resAs, resA]; rfl) hbox rfl htok htk.old htk.le (by simp [packA])⟩
def bdN (t : Ty) (i : Nat) : Bool := if (t.nd i).abs = true then true else leafB t (i : Int)
def bdS (s : Sd) : Bool := if 1 < s.low then false else decide (s.high ≤ 2)
def bdR (t : Ty) : Int := if tyE t ≠ 0 then tyE t else if (List.range t.nodes.length).all (bdN t) = false then 13 else if (sdsR t).all bdS = false then 6 else 0
def stBd1 (t : Ty) (nb : Nat) (box : Bxs) (tok : Tks) (nt : Nat) (i : Nat) : AState :=
 ⟨tl [(20, I i), (19, I t.nodes.length), (18, .d (nts t.nodes)), (1, .ptr (nb + 1) 0 0)], lb nb box [(1, [[.d (nts t.nodes), .d (ets t.edges)]])], tok, nt⟩
def stBd2 (t : Ty) (nb : Nat) (box : Bxs) (tok : Tks) (nt : Nat) (i : Nat) : AState :=
 ⟨tl [(38, I i), (37, I (sdsR t).length), (36, .d (sds (sdsR t))), (1, .ptr (nb + 1) 0 0)], lb nb box [(1, [[.d (nts t.nodes), .d (ets t.edges)]])], tok, nt⟩
theorem boundedP_c (t : Ty) (ht : t.Fit) (tok : Tks) (nt : Nat) : DCall Tryz.prog 99 [t.av] tok nt (I (bdR t)) tok nt := by
 intro box nb
 have hv := valid_c4 t ht ht.hM
 have hs := sidesP_c t ht
 have htn := ht.n
 have hte := ht.e
 obtain ⟨R, hR⟩ : ∃ R, bdR t = R := ⟨_, rfl⟩
 rw [hR]
 unfold bdR at hR
 refine sB Tryz.func99 Tryz.ntmps99 ?_
 intro hbox htok
 simp only at hbox htok
 apply AL.start
 try (simp)
 repeat (refine sR ?_; simp)
 refine Stop.of_d (hv _ _) ?_
 simp
 by_cases e0 : tyE t = 0
 ·rw [if_neg (by simp [e0])] at hR
  try (simp [e0])
  repeat (first | (refine sR ?_; simp [e0]) | (refine sC ?_; simp [e0]) | (refine sX ?_; simp only [AU, ↓reduceIte]))
  refine sN ?_
  refine AL.loopT (stBd1 t nb box tok nt) (fun i => i ≤ t.nodes.length ∧ ∀ j, j < i → bdN t j = true) (fun i => t.nodes.length - i) 0 ⟨Nat.zero_le _, fun j hj => absurd hj (Nat.not_lt_zero _)⟩ (Weaks.mk (Nat.le_refl _) rfl (by simp [ToL, lk]) (by simp [BoxL, lk])) ?_
  rintro i S ⟨hi, hall⟩ hS
  simp only [stBd1] at hS
  subst hS
  have hw := sW (i := i) (by omega)
  by_cases hlt : i < t.nodes.length
  ·have hl := leafK_c t (by omega) i
   have hnd : t.nd i = t.nodes[i] := by simp [Ty.nd, hlt]
   cases ea : t.nodes[i].abs
   ·have hb : bdN t i = leafB t (i : Int) := by unfold bdN; rw [hnd, ea]; simp
    try (simp [hlt, ea])
    repeat (first | (refine sR ?_; simp [hlt, ea]) | (refine sC ?_; simp [hlt, ea]) | (refine sX ?_; simp only [AU, ↓reduceIte]))
    refine Stop.of_d (hl _ _) ?_
    simp
    cases el : leafB t (i : Int)
    ·rw [el] at hb
     have : (List.range t.nodes.length).all (bdN t) = false := List.all_eq_false.2 ⟨i, List.mem_range.2 hlt, by simp [hb]⟩
     rw [if_pos this] at hR
     try (simp)
     repeat (first | (refine sR ?_; simp) | (refine sC ?_; simp) | (refine sX ?_; simp only [AU, ↓reduceIte]))
     refine sT ?_
     try simp only [AU]
     refine ⟨by simp, sF hbox htok (fun _ h => h) (Nat.le_refl _) ?_⟩
     simp [packA, hR]
    ·rw [el] at hb
     try (simp [hw])
     repeat (first | (refine sR ?_; simp [hw]) | (refine sC ?_; simp [hw]) | (refine sX ?_; simp only [AU, ↓reduceIte]))
     refine sE ?_
     exact ⟨i + 1, ⟨hlt, fun j hj => (Nat.lt_or_ge j i).elim (hall j) fun hh => by rw [show j = i by omega]; exact hb⟩, by omega, Weaks.mk (Nat.le_refl _) rfl (by simp [ToL, lk]) (by simp [BoxL, lk])⟩
   ·have hb : bdN t i = true := by unfold bdN; rw [hnd, ea]; simp
    try (simp [hlt, ea, hw])
    repeat (first | (refine sR ?_; simp [hlt, ea, hw]) | (refine sC ?_; simp [hlt, ea, hw]) | (refine sX ?_; simp only [AU, ↓reduceIte]))
    refine sE ?_
    exact ⟨i + 1, ⟨hlt, fun j hj => (Nat.lt_or_ge j i).elim (hall j) fun hh => by rw [show j = i by omega]; exact hb⟩, by omega, Weaks.mk (Nat.le_refl _) rfl (by simp [ToL, lk]) (by simp [BoxL, lk])⟩
  ·have : i = t.nodes.length := by omega
   subst this
   have : (List.range t.nodes.length).all (bdN t) = true := List.all_eq_true.2 fun j hj => hall j (List.mem_range.1 hj)
   rw [if_neg (by simp [this])] at hR
   try (simp)
   repeat (first | (refine sR ?_; simp) | (refine sC ?_; simp) | (refine sX ?_; simp only [AU, ↓reduceIte]))
   refine Stop.of_d (hs _ _) ?_
   simp
   try (simp)
   repeat (first | (refine sR ?_; simp) | (refine sC ?_; simp) | (refine sX ?_; simp only [AU, ↓reduceIte]))
   have hsl : (sdsR t).length ≤ 2000000 := by
    unfold sdsR
    rw [sdL_len (Nat.le_refl _)]
    omega
   refine sN ?_
   refine AL.loopT (stBd2 t nb box tok nt) (fun i => i ≤ (sdsR t).length ∧ ∀ j (h : j < (sdsR t).length), j < i → bdS (sdsR t)[j] = true) (fun i => (sdsR t).length - i) 0 ⟨Nat.zero_le _, fun j _ hj => absurd hj (Nat.not_lt_zero _)⟩ (Weaks.mk (Nat.le_refl _) rfl (by simp [ToL, lk]) (by simp [BoxL, lk])) ?_
   rintro i S ⟨hi, hall2⟩ hS
   simp only [stBd2] at hS
   subst hS
   have hw := sW (i := i) (by omega)
   by_cases hlt : i < (sdsR t).length
   ·by_cases l1 : 1 < (sdsR t)[i].low
    ·have hb : bdS (sdsR t)[i] = false := by unfold bdS; rw [if_pos l1]
     have : (sdsR t).all bdS = false := List.all_eq_false.2 ⟨_, List.getElem_mem hlt, by simp [hb]⟩
     rw [if_pos this] at hR
     try (simp [hlt, l1])
     repeat (first | (refine sR ?_; simp [hlt, l1]) | (refine sC ?_; simp [hlt, l1]) | (refine sX ?_; simp only [AU, ↓reduceIte]))
     refine sT ?_
     try simp only [AU]
     refine ⟨by simp, sF hbox htok (fun _ h => h) (Nat.le_refl _) ?_⟩
     simp [packA, hR]
    ·by_cases l2 : 2 < (sdsR t)[i].high
     ·have hb : bdS (sdsR t)[i] = false := by unfold bdS; rw [if_neg l1]; simp; omega
      have : (sdsR t).all bdS = false := List.all_eq_false.2 ⟨_, List.getElem_mem hlt, by simp [hb]⟩
      rw [if_pos this] at hR
      try (simp [hlt, l1, l2])
      repeat (first | (refine sR ?_; simp [hlt, l1, l2]) | (refine sC ?_; simp [hlt, l1, l2]) | (refine sX ?_; simp only [AU, ↓reduceIte]))
      refine sT ?_
      try simp only [AU]
      refine ⟨by simp, sF hbox htok (fun _ h => h) (Nat.le_refl _) ?_⟩
      simp [packA, hR]
     ·have hb : bdS (sdsR t)[i] = true := by unfold bdS; rw [if_neg l1]; simp; omega
      try (simp [hlt, l1, l2, hw])
      repeat (first | (refine sR ?_; simp [hlt, l1, l2, hw]) | (refine sC ?_; simp [hlt, l1, l2, hw]) | (refine sX ?_; simp only [AU, ↓reduceIte]))
      refine sE ?_
      exact ⟨i + 1, ⟨hlt, fun j h hj => (Nat.lt_or_ge j i).elim (hall2 j h) fun hh => by simp only [show j = i by omega]; exact hb⟩, by omega, Weaks.mk (Nat.le_refl _) rfl (by simp [ToL, lk]) (by simp [BoxL, lk])⟩
   ·have : i = (sdsR t).length := by omega
    subst this
    have : (sdsR t).all bdS = true := by
     rw [List.all_eq_true]
     intro x hx
     obtain ⟨j, hj, rfl⟩ := List.getElem_of_mem hx
     exact hall2 j hj hj
    rw [if_neg (by simp [this])] at hR
    try (simp)
    repeat (first | (refine sR ?_; simp) | (refine sC ?_; simp) | (refine sX ?_; simp only [AU, ↓reduceIte]))
    refine sT ?_
    try simp only [AU]
    refine ⟨by simp, sF hbox htok (fun _ h => h) (Nat.le_refl _) ?_⟩
    simp [packA, hR]
 ·rw [if_pos e0] at hR
  have b : (tyE t != 0) = true := by simp [e0]
  try (simp [b])
  repeat (first | (refine sR ?_; simp [b]) | (refine sC ?_; simp [b]) | (refine sX ?_; simp only [AU, ↓reduceIte]))
  refine sT ?_
  try simp only [AU]
  refine ⟨by simp, sF hbox htok (fun _ h => h) (Nat.le_refl _) ?_⟩
  simp [packA, hR]
end Go.AM
namespace Go.Proofs
open Go.Shelf
def Tryz.lays171_ren : Go.Shelf.Ren := ⟨fun | 171 => 106 | 243 => 177 | 246 => 238 | 283 => 279 | 284 => 280 | 285 => 281 | 286 => 282 | 129 => 276 | 317 => 300 | 318 => 301 | 319 => 302 | 320 => 303 | 337 => 313 | 338 => 314 | n => n, fun | 3 => 3 | 9 => 9 | 2 => 2 | 4 => 4 | 171 => 353 | 0 => 0 | 53 => 352 | 37 => 66 | 5 => 5 | 173 => 355 | 212 => 375 | 51 => 283 | 20 => 20 | 213 => 376 | 46 => 310 | 232 => 385 | 233 => 386 | n => n, fun | 17 => 3 | 18 => 5 | 19 => 6 | n => n⟩
theorem Tryz.lays171 : Go.Proofs.Lays.n171 Tryz.prog Tryz.lays171_ren := {
 mixed := by kernel_rfl
 f129 := Tryz.func276.trans (congrArg some (by kernel_rfl))
 f171 := Tryz.func106.trans (congrArg some (by kernel_rfl))
 f243 := Tryz.func177.trans (congrArg some (by kernel_rfl))
 f246 := Tryz.func238.trans (congrArg some (by kernel_rfl))
 f283 := Tryz.func279.trans (congrArg some (by kernel_rfl))
 f284 := Tryz.func280.trans (congrArg some (by kernel_rfl))
 f285 := Tryz.func281.trans (congrArg some (by kernel_rfl))
 f286 := Tryz.func282.trans (congrArg some (by kernel_rfl))
 f317 := Tryz.func300.trans (congrArg some (by kernel_rfl))
 f318 := Tryz.func301.trans (congrArg some (by kernel_rfl))
 f319 := Tryz.func302.trans (congrArg some (by kernel_rfl))
 f320 := Tryz.func303.trans (congrArg some (by kernel_rfl))
 f337 := Tryz.func313.trans (congrArg some (by kernel_rfl))
 f338 := Tryz.func314.trans (congrArg some (by kernel_rfl))
 t0 := Tryz.underlying0
 a0 := Tryz.isAgg0
 z0 := Tryz.sizeOf0
 v0 := Tryz.zeroValue0
 t2 := Tryz.underlying2
 a2 := Tryz.isAgg2
 z2 := Tryz.sizeOf2
 v2 := Tryz.zeroValue2
 t3 := Tryz.underlying3
 a3 := Tryz.isAgg3
 z3 := Tryz.sizeOf3
 v3 := Tryz.zeroValue3
 t4 := Tryz.underlying4
 a4 := Tryz.isAgg4
 z4 := Tryz.sizeOf4
 v4 := Tryz.zeroValue4
 t5 := Tryz.underlying5
 a5 := Tryz.isAgg5
 z5 := Tryz.sizeOf5
 v5 := Tryz.zeroValue5
 t9 := Tryz.underlying9
 a9 := Tryz.isAgg9
 z9 := Tryz.sizeOf9
 v9 := Tryz.zeroValue9
 t20 := Tryz.underlying20
 a20 := Tryz.isAgg20
 z20 := Tryz.sizeOf20
 v20 := Tryz.zeroValue20
 t37 := Tryz.underlying66
 a37 := Tryz.isAgg66
 z37 := Tryz.sizeOf66
 v37 := Tryz.zeroValue66
 t46 := Tryz.underlying310
 a46 := Tryz.isAgg310
 z46 := Tryz.sizeOf310
 v46 := Tryz.zeroValue310
 t51 := Tryz.underlying283
 a51 := Tryz.isAgg283
 z51 := Tryz.sizeOf283
 v51 := Tryz.zeroValue283
 t53 := Tryz.underlying352
 a53 := Tryz.isAgg352
 z53 := Tryz.sizeOf352
 v53 := Tryz.zeroValue352
 t171 := Tryz.underlying353
 a171 := Tryz.isAgg353
 z171 := Tryz.sizeOf353
 v171 := Tryz.zeroValue353
 t173 := Tryz.underlying355
 a173 := Tryz.isAgg355
 z173 := Tryz.sizeOf355
 v173 := Tryz.zeroValue355
 t212 := Tryz.underlying375
 a212 := Tryz.isAgg375
 z212 := Tryz.sizeOf375
 v212 := Tryz.zeroValue375
 t213 := Tryz.underlying376
 a213 := Tryz.isAgg376
 z213 := Tryz.sizeOf376
 t232 := Tryz.underlying385
 a232 := Tryz.isAgg385
 z232 := Tryz.sizeOf385
 v232 := Tryz.zeroValue385
 t233 := Tryz.underlying386
 a233 := Tryz.isAgg386
 z233 := Tryz.sizeOf386
 v233 := Tryz.zeroValue386
 g17 := by kernel_rfl
 g18 := by kernel_rfl
 g19 := by kernel_rfl }
open Go.RowKit Go.Sort Go.Lib in
theorem Tryz.strconv_Itoa_small (i : Nat) (hi : i < 100) (w : World) :
  Calls Tryz.prog 106 #[.int .i64 i] w fun e w' => e = .returned (.string ⟨(Lib.decDigits i).toArray⟩) ∧ w' = w := Any.strconv_Itoa_small Tryz.lays171 i hi w
end Go.Proofs
namespace Go.AM
open Go Go.Proofs
def dgB (i : Nat) : ByteArray := ⟨(Lib.decDigits i).toArray⟩
theorem dgB_size {i : Nat} (h : i < 100) : (dgB i).size ≤ 2 := by
 unfold dgB
 by_cases h1 : i < 10
 ·rw [Lib.decDigits_one h1]; exact Nat.le_succ _
 ·rw [Lib.decDigits_two h1 h]; exact Nat.le_refl _
theorem itoaD_c (i : Nat) (h : i < 100) (tok : Tks) (nt : Nat) : DCall Tryz.prog 106 [I i] tok nt (Sb (dgB i)) tok nt := by
 intro box nb
 refine ⟨Enters.mk Tryz.func106 rfl (by kernel_rfl), fun G w vals hm hr => ?_⟩
 obtain ⟨hlen, hrv⟩ := hr
 match vals, hlen with
 | [v], _ =>
  have h0 := hrv 0 (by simp) (by simp)
  simp only [List.getElem_cons_zero] at h0
  cases h0 with | d h0 =>
  cases h0
  refine (Tryz.strconv_Itoa_small i h w).mono ?_
  rintro e w' ⟨rfl, rfl⟩
  exact ⟨_, _, _, G, rfl, ⟨rfl, rfl⟩, rfl, hm, .d (.raw rfl), Le.refl _ _, fun k hk => ⟨hk, rfl⟩⟩
end Go.AM
namespace Go.AM
open Go Go.Proofs
def mulLo (s : Sd) (node : Int) (ends : List Int) (out : List Co) : Option (List Co) := if s.low = 1 then (if 6 < ends.length then none else some (out ++ [lstC s node ends])) else some out
def mulHi (s : Sd) (node : Int) (ends : List Int) (out : List Co) : List Co := if 0 ≤ s.high then out ++ greL s node ends else out
def mulOk (t : Ty) (s : Sd) (node : Nat) : Bool := if leafB t (node : Int) = true then tIs t (node : Int) s.near else false
def mulN (t : Ty) (s : Sd) (node : Nat) (out : List Co) : Option (List Co) :=
 if mulOk t s node = true then (match mulLo s node (endsR t s node) out with
  | none => none
  | some o => if 100 < (mulHi s node (endsR t s node) o).length then none else some (mulHi s node (endsR t s node) o))
 else some out
def mulT (t : Ty) (s : Sd) : Nat → Nat → List Co → Option (List Co)
 | _, 0, out => some out
 | i, n + 1, out => match mulN t s i out with | none => none | some o => mulT t s (i + 1) n o
def mulS (t : Ty) : List Sd → List Co → Option (List Co)
 | [], out => some out
 | s :: l, out => match mulT t s 0 t.nodes.length out with | none => none | some o => mulS t l o
def mulR0 (t : Ty) : Option (List Co) := mulS t (sdsR t) []
def nmC (c : Co) (i : Nat) : Co := { c with name := ⟨#[109]⟩ ++ dgB i }
def nmL (l : List Co) (k : Nat) : List Co := (List.range l.length).map fun j => if j < k then nmC (l.getD j ⟨⟨#[]⟩, 0, ⟨[], []⟩, []⟩) j else l.getD j ⟨⟨#[]⟩, 0, ⟨[], []⟩, []⟩
def mulR (t : Ty) : List Co × Int := if bdR t ≠ 0 then ([], bdR t) else match mulR0 t with | none => ([], 3) | some l => (nmL l l.length, 0)
theorem greL_len (s : Sd) (node : Int) (ends : List Int) (hn : ends.length ≤ 100) (h0 : 0 ≤ s.high) (h2 : s.high ≤ 2) : (greL s node ends).length ≤ 6000000 := by
 have h : greL s node ends = grK s node ends (partsN (s.high.toNat + 1)) (partsN (s.high.toNat + 1)).length [] [] 0 := by simp [greL, grK]
 rw [h]
 refine grK_len hn ?_ (fun p hp => ?_) (by simp)
 ·have : s.high.toNat = 0 ∨ s.high.toNat = 1 ∨ s.high.toNat = 2 := by omega
  rcases this with h | h | h <;> rw [h] <;> decide
 ·have := partsN_len _ p hp
  omega
structure MuX where
 i : Nat
 out : List Co
 tk : Nat
 tok : Nat → Bool
 nt : Nat
def mulX1 (t : Ty) (S : List Sd) (nb : Nat) (box : Bxs) (x : MuX) : AState :=
 ⟨tl [(22, I x.i), (21, I S.length), (20, .d (sds S)), (5, .stk x.tk 5 (rCo x.out)), (1, .ptr (nb + 1) 0 0)], lb nb box [(1, [[.d (nts t.nodes), .d (ets t.edges)]])], x.tok, x.nt⟩
def mulX2 (t : Ty) (S : List Sd) (i : Nat) (s : Sd) (nb : Nat) (box : Bxs) (x : MuX) : AState :=
 ⟨tl [(29, I x.i), (28, I t.nodes.length), (7, .ptr (nb + 7) 0 0), (22, I i), (21, I S.length), (20, .d (sds S)), (5, .stk x.tk 5 (rCo x.out)), (1, .ptr (nb + 1) 0 0)], lb nb box [(7, [[I s.k, B s.o, I s.near, I s.far, I s.low, I s.high]]), (1, [[.d (nts t.nodes), .d (ets t.edges)]])], x.tok, x.nt⟩
theorem nmL_len (l : List Co) (k : Nat) : (nmL l k).length = l.length := by simp [nmL]
def mulX3 (out : List Co) (Z : List (List AV)) (nb : Nat) (box : Bxs) (tok : Tks) (nt : Nat) (k : Nat) : AState :=
 ⟨tl [(86, I k), (85, I out.length), (5, .msl (nb + 7) 0 out.length 5)], lb nb box [(7, rowsD (rCo (nmL out k)) ++ Z)], tok, nt⟩
theorem nmL_zero (l : List Co) : nmL l 0 = l := by
 refine List.ext_getElem (by simp [nmL]) fun i h1 h2 => ?_
 simp [nmL, h2]
theorem nmL0 {l : List Co} : rCo l = rCo (nmL l 0) := by rw [nmL_zero]
theorem mul_rt {p q : Nat → Prop} {fz : Option (Nat × Nat × List (List D))} {a b : List (List D)} {m : Nat} {Z : List (List AV)} (h : a = b) (hZ : List.replicate m (List.replicate 5 AV.bot) = Z) : RowsTo p q fz (rowsD a ++ Z) (rowsD b ++ Z) := by
 subst h
 refine rowsTo_same fun r hr x hx => ?_
 rcases List.mem_append.1 hr with hr | hr
 ·obtain ⟨e, _, rfl⟩ := List.mem_map.1 hr
  obtain ⟨d, _, rfl⟩ := List.mem_map.1 hx
  exact .d
 ·rw [← hZ] at hr
  rw [List.eq_of_mem_replicate hr] at hx
  rw [List.eq_of_mem_replicate hx]
  exact .bot
theorem nmL_set {l : List Co} {k : Nat} (h : k < l.length) : (nmL l k).set k (nmC l[k] k) = nmL l (k + 1) := by
 refine List.ext_getElem (by simp [nmL]) fun i a b => ?_
 have hi : i < l.length := by simpa [nmL] using a
 rw [List.getElem_set]
 simp only [nmL, List.getElem_map, List.getElem_range]
 by_cases e : k = i
 ·subst e
  rw [if_pos rfl, if_pos (Nat.lt_succ_self _)]
  simp [hi]
 ·rw [if_neg e]
  by_cases h2 : i < k
  ·rw [if_pos h2, if_pos (show i < k + 1 by omega)]
  ·rw [if_neg h2, if_neg (show ¬ i < k + 1 by omega)]
theorem nmL_row {l : List Co} {k : Nat} (h : k < l.length) (Z : List (List AV)) : (rowsD (rCo (nmL l k)) ++ Z)[k]? = some [Sb l[k].name, I l[k].kind, .d (ints l[k].g.nodes), .d (AM.edges l[k].g.edges), .d (xts l[k].exts)] := by
 have hk : k < (nmL l k).length := by rw [nmL_len]; exact h
 have hg : (nmL l k)[k] = l[k] := by simp [nmL, h]
 rw [List.getElem?_append_left (by simp; exact hk)]
 simp [rowsD, hk, hg]
theorem nmL_put {l : List Co} {k : Nat} (h : k < l.length) (Z : List (List AV)) : (rowsD (rCo (nmL l k)) ++ Z).set k [Sb (⟨#[109]⟩ ++ dgB k), I l[k].kind, .d (ints l[k].g.nodes), .d (AM.edges l[k].g.edges), .d (xts l[k].exts)] = rowsD (rCo (nmL l (k + 1))) ++ Z := by
 have hk : k < (nmL l k).length := by rw [nmL_len]; exact h
 rw [List.set_append_left _ _ (by simp; exact hk), ← nmL_set h]
 simp [rowsD, List.map_set, nmC]
def mulRest (t : Ty) (s : Sd) (l : List Sd) (j n : Nat) (out : List Co) : Option (List Co) := match mulT t s j n out with | none => none | some o => mulS t l o
set_option maxRecDepth 100000 in
theorem multP_c (t : Ty) (ht : t.Fit) (tok : Tks) (nt : Nat) (box : Bxs) (nb : Nat) : ACalls Tryz.prog 45 [t.av] ⟨box, nb, tok, nt⟩ fun v m => m = ⟨box, nb, tok, nt⟩ ∧ (v = .tup [.d (.sl 5 (rCo (mulR t).1)), I (mulR t).2] ∨ (mulR t).1 = [] ∧ v = .tup [.osl 0 [] .full, I (mulR t).2]) := by
 have hb := boundedP_c t ht
 have hs := sidesP_c t ht
 have htn := ht.n
 refine sB Tryz.func45 Tryz.ntmps45 ?_
 intro hbox htok
 simp only at hbox htok
 apply AL.start
 try (simp)
 repeat (refine sR ?_; simp)
 refine Stop.of_d (hb _ _) ?_
 simp
 by_cases e0 : bdR t = 0
 ·have hR : mulR t = match mulR0 t with | none => ([], 3) | some l => (nmL l l.length, 0) := by unfold mulR; rw [if_neg (by simp [e0])]
  have hbd : ∀ s ∈ sdsR t, s.low ≤ 1 ∧ s.high ≤ 2 := by
   unfold bdR at e0
   split at e0
   ·rename_i e; exact absurd e0 e
   ·split at e0
    ·cases e0
    ·split at e0
     ·cases e0
     ·rename_i h
      intro s hs
      have := List.all_eq_true.1 (by simpa using h) s hs
      unfold bdS at this
      split at this
      ·cases this
      ·simp at this; omega
  have hn12 : t.nodes.length ≤ 12 := by
   unfold bdR at e0
   split at e0
   ·rename_i e; exact absurd e0 e
   ·rename_i e
    have e : tyE t = 0 := by simpa using e
    unfold tyE at e
    split at e
    ·cases e
    ·split at e
     ·cases e
     ·omega
  have h0 : mulS t ((sdsR t).drop 0) [] = mulR0 t := rfl
  have hSl : (sdsR t).length ≤ 2000000 := by
   unfold sdsR
   rw [sdL_len (Nat.le_refl _)]
   have := ht.e
   omega
  obtain ⟨R, hRR⟩ : ∃ R, mulR0 t = R := ⟨_, rfl⟩
  rw [hRR] at hR h0
  try (simp [e0])
  repeat (first | (refine sR ?_; simp [e0]) | (refine sC ?_; simp [e0]) | (refine sX ?_; simp only [AU, ↓reduceIte]))
  refine Stop.of_d (hs _ _) ?_
  simp
  generalize sdsR t = S at *
  try (simp)
  repeat (first | (refine sR ?_; simp) | (refine sC ?_; simp) | (refine sX ?_; simp only [AU, ↓reduceIte]))
  refine sN ?_
  refine AL.weak (Weaks.mk (l' := [(22, I 0), (21, I S.length), (20, .d (sds S)), (5, .osl 0 [] .full), (1, .ptr (nb + 1) 0 0)]) (loc' := [(1, [[.d (nts t.nodes), .d (ets t.edges)]])]) (Nat.le_refl _) rfl (by simp [ToL, lk]) (by simp [BoxL, lk])) ?_
  refine AL.trans (Trans.opn (l' := [(22, I 0), (21, I S.length), (20, .d (sds S)), (5, .stk nt 5 []), (1, .ptr (nb + 1) 0 0)]) (loc' := [(1, [[.d (nts t.nodes), .d (ets t.edges)]])]) 5 (by simp [CvL]) (by simp [CvB]; exact cvRs_same (fun _ => .same) _)) ?_
  have htk0 := (TK.start htok).full.app
  refine AL.loopT (mulX1 t S nb box) (fun x => x.i ≤ S.length ∧ mulS t (S.drop x.i) x.out = R ∧ x.out.length ≤ 100 ∧ TK tok nt x.tok x.nt [.tok x.tk]) (fun x => S.length - x.i) ⟨0, [], nt, upd tok nt true, nt + 1⟩ ⟨Nat.zero_le _, h0, by simp, htk0⟩ (Weaks.mk (Nat.le_succ _) rfl (by simp [ToL, lk]) (by simp [BoxL, lk])) ?_
  rintro ⟨i, out, tk, tok', nt'⟩ X ⟨hi, hout, hol, htk⟩ hS
  simp only [mulX1] at hS hi hout hol htk
  subst hS
  have hw := sW (i := i) (by omega)
  by_cases hlt : i < S.length
  ·obtain ⟨hlo, hhi⟩ := hbd _ (List.getElem_mem hlt)
   have hout : mulRest t S[i] (S.drop (i + 1)) 0 t.nodes.length out = R := by
    rw [← hout, List.drop_eq_getElem_cons hlt]
    rfl
   try (simp [hlt])
   repeat (first | (refine sR ?_; simp [hlt]) | (refine sC ?_; simp [hlt]) | (refine sX ?_; simp only [AU, ↓reduceIte]))
   refine sN ?_
   generalize S[i] = s at *
   refine AL.loopT (mulX2 t S i s nb box) (fun x => x.i ≤ t.nodes.length ∧ mulRest t s (S.drop (i + 1)) x.i (t.nodes.length - x.i) x.out = R ∧ x.out.length ≤ 100 ∧ TK tok nt x.tok x.nt [.tok x.tk]) (fun x => t.nodes.length - x.i) ⟨0, out, tk, tok', nt'⟩ ⟨Nat.zero_le _, hout, hol, htk⟩ (Weaks.mk htk.le rfl (by simp [ToL, lk]) (by simp [BoxL, lk])) ?_
   rintro ⟨j, out2, tk2, tok2, nt2⟩ X ⟨hj, hout2, hol2, htk2⟩ hS
   simp only [mulX2] at hS hj hout2 hol2 htk2
   subst hS
   have hwj := sW (i := j) (by omega)
   by_cases hlj : j < t.nodes.length
   ·have hout2 : (match mulN t s j out2 with | none => none | some o => mulRest t s (S.drop (i + 1)) (j + 1) (t.nodes.length - (j + 1)) o) = R := by
     rw [← hout2, mulRest, show t.nodes.length - j = (t.nodes.length - (j + 1)) + 1 by omega, mulT]
     cases mulN t s j out2 <;> rfl
    have hl := leafK_c t (by omega) j
    have hi := isT_c t ht j s.near
    have he := endsP_c t ht s j
    have hel := endsN_len t s j t.nodes.length
    have hel2 : (endsR t s j).length ≤ 13 := by unfold endsR; omega
    have hle := leastP_c s j (endsR t s j) (by omega)
    have skip : mulOk t s j = false → mulRest t s (S.drop (i + 1)) (j + 1) (t.nodes.length - (j + 1)) out2 = R := by
     intro h
     rw [← hout2, mulN, if_neg (by simp [h])]
    unfold mulOk at skip
    try (simp [hlj])
    repeat (first | (refine sR ?_; simp [hlj]) | (refine sC ?_; simp [hlj]) | (refine sX ?_; simp only [AU, ↓reduceIte]))
    refine Stop.of_d (hl _ _) ?_
    simp
    cases e1 : leafB t (j : Int)
    ·have skip := skip (by simp [e1])
     try (simp [hwj])
     repeat (first | (refine sR ?_; simp [hwj]) | (refine sC ?_; simp [hwj]) | (refine sX ?_; simp only [AU, ↓reduceIte]))
     refine sE ?_
     exact ⟨⟨j + 1, out2, tk2, tok2, nt2⟩, ⟨hlj, skip, hol2, htk2⟩, by simp only; omega, Weaks.mk htk2.le rfl (by simp [ToL, lk]) (by simp [BoxL, lk])⟩
    ·try (simp)
     repeat (first | (refine sR ?_; simp) | (refine sC ?_; simp) | (refine sX ?_; simp only [AU, ↓reduceIte]))
     refine Stop.of_d (hi _ _) ?_
     simp
     cases e2 : tIs t (j : Int) s.near
     ·have skip := skip (by simp [e1, e2])
      try (simp [hwj])
      repeat (first | (refine sR ?_; simp [hwj]) | (refine sC ?_; simp [hwj]) | (refine sX ?_; simp only [AU, ↓reduceIte]))
      refine sE ?_
      exact ⟨⟨j + 1, out2, tk2, tok2, nt2⟩, ⟨hlj, skip, hol2, htk2⟩, by simp only; omega, Weaks.mk htk2.le rfl (by simp [ToL, lk]) (by simp [BoxL, lk])⟩
     ·have hgo : mulOk t s j = true := by unfold mulOk; rw [if_pos e1, e2]
      rw [mulN, if_pos hgo] at hout2
      clear skip
      try (simp)
      repeat (first | (refine sR ?_; simp) | (refine sC ?_; simp) | (refine sX ?_; simp only [AU, ↓reduceIte]))
      refine Stop.of_d (he _ _) ?_
      simp
      generalize endsR t s j = ends at *
      by_cases h1 : s.low = 1
      ·have b1 : (s.low == 1) = true := by simp [h1]
       have hml : mulLo s j ends out2 = if 6 < ends.length then none else some (out2 ++ [lstC s j ends]) := by unfold mulLo; rw [if_pos h1]
       rw [hml] at hout2
       have hex : (lstC s j ends).exts.length = ends.length := by simp [lstC]
       generalize lstC s j ends = lc at *
       try (simp [b1])
       repeat (first | (refine sR ?_; simp [b1]) | (refine sC ?_; simp [b1]) | (refine sX ?_; simp only [AU, ↓reduceIte]))
       refine Stop.of_d (hle _ _) ?_
       simp
       by_cases h6 : 6 < ends.length
       ·rw [if_pos h6] at hout2
        have b6 : (6 : Int) < (ends.length : Int) := by omega
        try (simp [hex, b6])
        repeat (first | (refine sR ?_; simp [hex, b6]) | (refine sC ?_; simp [hex, b6]) | (refine sX ?_; simp only [AU, ↓reduceIte]))
        refine sN ?_
        refine AL.ret ?_
        try simp only [AU]
        exact ⟨by simp, (Fin.data (av := .tup [.osl 0 [] .full, I 3]) (by simp [resAs, resA]; rfl) hbox rfl htok htk2.old htk2.le (by simp [packA])).mono fun v m hq => ⟨hq.2, .inr (by rw [hR, ← hout2]; exact ⟨rfl, hq.1⟩)⟩⟩
       ·rw [if_neg h6] at hout2
        simp only at hout2
        have b6 : ¬ (6 : Int) < (ends.length : Int) := by omega
        try (simp [hex, b6])
        repeat (first | (refine sR ?_; simp [hex, b6]) | (refine sC ?_; simp [hex, b6]) | (refine sX ?_; simp only [AU, ↓reduceIte]))
        refine ⟨⟨by omega, htk2.live⟩, ?_⟩
        have htk3 := htk2.app
        by_cases hh : 0 ≤ s.high
        ·have hgr := greatestP_c s j ends (by omega) hh hhi
         have hmh : mulHi s j ends ((out2 ++ [lc])) = (out2 ++ [lc]) ++ greL s j ends := by unfold mulHi; rw [if_pos hh]
         have hgl := greL_len s j ends (by omega) hh hhi
         rw [hmh] at hout2
         generalize greL s j ends = gl at *
         try (simp [hh])
         repeat (first | (refine sR ?_; simp [hh]) | (refine sC ?_; simp [hh]) | (refine sX ?_; simp only [AU, ↓reduceIte]))
         refine Stop.of_d (hgr _ _) ?_
         simp
         try (simp)
         repeat (first | (refine sR ?_; simp) | (refine sC ?_; simp) | (refine sX ?_; simp only [AU, ↓reduceIte]))
         refine ⟨⟨by omega, htk3.live⟩, ?_⟩
         have htk9 := htk3.app
         obtain ⟨O, hO⟩ : ∃ O, (out2 ++ [lc]) ++ gl = O := ⟨_, rfl⟩
         rw [hO] at hout2
         refine AL.weak (Weaks.mk (l' := [(5, .stk (nt2 + 1) 5 (rCo O)), (29, I j), (28, I t.nodes.length), (7, .ptr (nb + 7) 0 0), (22, I i), (21, I S.length), (20, .d (sds S)), (1, .ptr (nb + 1) 0 0)]) (loc' := [(7, [[I s.k, B s.o, I s.near, I s.far, I s.low, I s.high]]), (1, [[.d (nts t.nodes), .d (ets t.edges)]])]) htk9.le rfl (by simp [ToL, lk, ← hO]) (by simp [BoxL, lk])) ?_
         by_cases hb : 100 < O.length
         ·have bb : (100 : Int) < (O.length : Int) := by omega
          rw [if_pos hb] at hout2
          try (simp [bb])
          repeat (first | (refine sR ?_; simp [bb]) | (refine sC ?_; simp [bb]) | (refine sX ?_; simp only [AU, ↓reduceIte]))
          refine sN ?_
          refine AL.ret ?_
          try simp only [AU]
          exact ⟨by simp, (Fin.data (av := .tup [.osl 0 [] .full, I 3]) (by simp [resAs, resA]; rfl) hbox rfl htok htk9.old htk9.le (by simp [packA])).mono fun v m hq => ⟨hq.2, .inr (by rw [hR, ← hout2]; exact ⟨rfl, hq.1⟩)⟩⟩
         ·have bb : ¬ (100 : Int) < (O.length : Int) := by omega
          rw [if_neg hb] at hout2
          try (simp [bb, hwj])
          repeat (first | (refine sR ?_; simp [bb, hwj]) | (refine sC ?_; simp [bb, hwj]) | (refine sX ?_; simp only [AU, ↓reduceIte]))
          refine sE ?_
          exact ⟨⟨j + 1, O, (nt2 + 1), _, _⟩, ⟨hlj, hout2, by simp only; omega, htk9⟩, by simp only; omega, Weaks.mk htk9.le rfl (by simp [ToL, lk]) (by simp [BoxL, lk])⟩
        ·have hmh : mulHi s j ends ((out2 ++ [lc])) = (out2 ++ [lc]) := by unfold mulHi; rw [if_neg hh]
         rw [hmh] at hout2
         refine sR ?_
         simp [hh]
         refine sC ?_
         simp
         refine sN ?_
         obtain ⟨O, hO⟩ : ∃ O, (out2 ++ [lc]) = O := ⟨_, rfl⟩
         rw [hO] at hout2
         refine AL.weak (Weaks.mk (l' := [(5, .stk nt2 5 (rCo O)), (29, I j), (28, I t.nodes.length), (7, .ptr (nb + 7) 0 0), (22, I i), (21, I S.length), (20, .d (sds S)), (1, .ptr (nb + 1) 0 0)]) (loc' := [(7, [[I s.k, B s.o, I s.near, I s.far, I s.low, I s.high]]), (1, [[.d (nts t.nodes), .d (ets t.edges)]])]) htk3.le rfl (by simp [ToL, lk, ← hO]) (by simp [BoxL, lk])) ?_
         by_cases hb : 100 < O.length
         ·have bb : (100 : Int) < (O.length : Int) := by omega
          rw [if_pos hb] at hout2
          try (simp [bb])
          repeat (first | (refine sR ?_; simp [bb]) | (refine sC ?_; simp [bb]) | (refine sX ?_; simp only [AU, ↓reduceIte]))
          refine sN ?_
          refine AL.ret ?_
          try simp only [AU]
          exact ⟨by simp, (Fin.data (av := .tup [.osl 0 [] .full, I 3]) (by simp [resAs, resA]; rfl) hbox rfl htok htk3.old htk3.le (by simp [packA])).mono fun v m hq => ⟨hq.2, .inr (by rw [hR, ← hout2]; exact ⟨rfl, hq.1⟩)⟩⟩
         ·have bb : ¬ (100 : Int) < (O.length : Int) := by omega
          rw [if_neg hb] at hout2
          try (simp [bb, hwj])
          repeat (first | (refine sR ?_; simp [bb, hwj]) | (refine sC ?_; simp [bb, hwj]) | (refine sX ?_; simp only [AU, ↓reduceIte]))
          refine sE ?_
          exact ⟨⟨j + 1, O, nt2, _, _⟩, ⟨hlj, hout2, by simp only; omega, htk3⟩, by simp only; omega, Weaks.mk htk3.le rfl (by simp [ToL, lk]) (by simp [BoxL, lk])⟩
      ·have b1 : (s.low == 1) = false := by simp [h1]
       have hml : mulLo s j ends out2 = some out2 := by unfold mulLo; rw [if_neg h1]
       rw [hml] at hout2
       simp only at hout2
       refine sR ?_
       simp [b1]
       refine sC ?_
       simp
       refine sN ?_
       by_cases hh : 0 ≤ s.high
       ·have hgr := greatestP_c s j ends (by omega) hh hhi
        have hmh : mulHi s j ends (out2) = out2 ++ greL s j ends := by unfold mulHi; rw [if_pos hh]
        have hgl := greL_len s j ends (by omega) hh hhi
        rw [hmh] at hout2
        generalize greL s j ends = gl at *
        try (simp [hh])
        repeat (first | (refine sR ?_; simp [hh]) | (refine sC ?_; simp [hh]) | (refine sX ?_; simp only [AU, ↓reduceIte]))
        refine Stop.of_d (hgr _ _) ?_
        simp
        try (simp)
        repeat (first | (refine sR ?_; simp) | (refine sC ?_; simp) | (refine sX ?_; simp only [AU, ↓reduceIte]))
        refine ⟨⟨by omega, htk2.live⟩, ?_⟩
        have htk9 := htk2.app
        obtain ⟨O, hO⟩ : ∃ O, out2 ++ gl = O := ⟨_, rfl⟩
        rw [hO] at hout2
        refine AL.weak (Weaks.mk (l' := [(5, .stk nt2 5 (rCo O)), (29, I j), (28, I t.nodes.length), (7, .ptr (nb + 7) 0 0), (22, I i), (21, I S.length), (20, .d (sds S)), (1, .ptr (nb + 1) 0 0)]) (loc' := [(7, [[I s.k, B s.o, I s.near, I s.far, I s.low, I s.high]]), (1, [[.d (nts t.nodes), .d (ets t.edges)]])]) htk9.le rfl (by simp [ToL, lk, ← hO]) (by simp [BoxL, lk])) ?_
        by_cases hb : 100 < O.length
        ·have bb : (100 : Int) < (O.length : Int) := by omega
         rw [if_pos hb] at hout2
         try (simp [bb])
         repeat (first | (refine sR ?_; simp [bb]) | (refine sC ?_; simp [bb]) | (refine sX ?_; simp only [AU, ↓reduceIte]))
         refine sN ?_
         refine AL.ret ?_
         try simp only [AU]
         exact ⟨by simp, (Fin.data (av := .tup [.osl 0 [] .full, I 3]) (by simp [resAs, resA]; rfl) hbox rfl htok htk9.old htk9.le (by simp [packA])).mono fun v m hq => ⟨hq.2, .inr (by rw [hR, ← hout2]; exact ⟨rfl, hq.1⟩)⟩⟩
        ·have bb : ¬ (100 : Int) < (O.length : Int) := by omega
         rw [if_neg hb] at hout2
         try (simp [bb, hwj])
         repeat (first | (refine sR ?_; simp [bb, hwj]) | (refine sC ?_; simp [bb, hwj]) | (refine sX ?_; simp only [AU, ↓reduceIte]))
         refine sE ?_
         exact ⟨⟨j + 1, O, nt2, _, _⟩, ⟨hlj, hout2, by simp only; omega, htk9⟩, by simp only; omega, Weaks.mk htk9.le rfl (by simp [ToL, lk]) (by simp [BoxL, lk])⟩
       ·have hmh : mulHi s j ends (out2) = out2 := by unfold mulHi; rw [if_neg hh]
        rw [hmh] at hout2
        refine sR ?_
        simp [hh]
        refine sC ?_
        simp
        refine sN ?_
        obtain ⟨O, hO⟩ : ∃ O, out2 = O := ⟨_, rfl⟩
        rw [hO] at hout2
        refine AL.weak (Weaks.mk (l' := [(5, .stk tk2 5 (rCo O)), (29, I j), (28, I t.nodes.length), (7, .ptr (nb + 7) 0 0), (22, I i), (21, I S.length), (20, .d (sds S)), (1, .ptr (nb + 1) 0 0)]) (loc' := [(7, [[I s.k, B s.o, I s.near, I s.far, I s.low, I s.high]]), (1, [[.d (nts t.nodes), .d (ets t.edges)]])]) htk2.le rfl (by simp [ToL, lk, ← hO]) (by simp [BoxL, lk])) ?_
        by_cases hb : 100 < O.length
        ·have bb : (100 : Int) < (O.length : Int) := by omega
         rw [if_pos hb] at hout2
         try (simp [bb])
         repeat (first | (refine sR ?_; simp [bb]) | (refine sC ?_; simp [bb]) | (refine sX ?_; simp only [AU, ↓reduceIte]))
         refine sN ?_
         refine AL.ret ?_
         try simp only [AU]
         exact ⟨by simp, (Fin.data (av := .tup [.osl 0 [] .full, I 3]) (by simp [resAs, resA]; rfl) hbox rfl htok htk2.old htk2.le (by simp [packA])).mono fun v m hq => ⟨hq.2, .inr (by rw [hR, ← hout2]; exact ⟨rfl, hq.1⟩)⟩⟩
        ·have bb : ¬ (100 : Int) < (O.length : Int) := by omega
         rw [if_neg hb] at hout2
         try (simp [bb, hwj])
         repeat (first | (refine sR ?_; simp [bb, hwj]) | (refine sC ?_; simp [bb, hwj]) | (refine sX ?_; simp only [AU, ↓reduceIte]))
         refine sE ?_
         exact ⟨⟨j + 1, O, tk2, _, _⟩, ⟨hlj, hout2, by simp only; omega, htk2⟩, by simp only; omega, Weaks.mk htk2.le rfl (by simp [ToL, lk]) (by simp [BoxL, lk])⟩
   ·have : j = t.nodes.length := by omega
    subst this
    have hout3 : mulS t (S.drop (i + 1)) out2 = R := by
     rw [← hout2, mulRest, Nat.sub_self, mulT]
    try (simp [hw])
    repeat (first | (refine sR ?_; simp [hw]) | (refine sC ?_; simp [hw]) | (refine sX ?_; simp only [AU, ↓reduceIte]))
    refine sE ?_
    exact ⟨⟨i + 1, out2, tk2, tok2, nt2⟩, ⟨hlt, hout3, hol2, htk2⟩, by simp only; omega, Weaks.mk htk2.le rfl (by simp [ToL, lk]) (by simp [BoxL, lk])⟩
  ·have : i = S.length := by omega
   subst this
   have hR2 : mulR t = (nmL out out.length, 0) := by
    rw [hR, ← hout, List.drop_length]
    rfl
   try (simp)
   repeat (first | (refine sR ?_; simp) | (refine sC ?_; simp) | (refine sX ?_; simp only [AU, ↓reduceIte]))
   by_cases hne : out = []
   ·subst hne
    refine AL.stkD tk htk.live ?_
    simp only [List.map_cons, List.map_nil, AV.sdT, ↓reduceIte]
    refine sN ?_
    refine AL.loopT (fun _ : Nat => ⟨tl [(86, I 0), (85, I 0), (5, .d (.sl 5 []))], lb nb box [], upd tok' tk false, nt'⟩) (fun _ => True) (fun k => k) 0 trivial (Weaks.mk htk.le rfl (by simp [ToL, lk]) (by simp [BoxL, lk])) ?_
    rintro k X _ hS
    subst hS
    try (simp)
    repeat (first | (refine sR ?_; simp) | (refine sC ?_; simp) | (refine sX ?_; simp only [AU, ↓reduceIte]))
    refine sT ?_
    try simp only [AU]
    exact ⟨by simp, (Fin.data (av := .tup [.d (.sl 5 []), I 0]) (by simp [resAs, resA]; rfl) hbox rfl htok htk.spend.old htk.le (by simp [packA])).mono fun v m hq => ⟨hq.2, .inl (by rw [hR2, hq.1]; rfl)⟩⟩
   ·refine AL.thawS (l' := [(86, I 0), (85, I out.length), (84, .msl (nb + 7) 0 out.length 5), (23, .bot), (22, .bot), (21, .bot), (20, .bot), (5, .msl (nb + 7) 0 out.length 5), (1, .bot)]) (loc' := [(1, [[.d (nts t.nodes), .d (ets t.edges)]])]) tk 7 5 (rCo out) 5 rfl (show (7 : Nat) < 98 by decide) rfl htk.live (by simpa using hne) rfl ?_ ?_ ?_
    ·simp [CvL]
    ·exact ⟨rfl, cvRs_same (fun _ => .same) _, trivial⟩
    intro m
    generalize hRm : List.replicate m (List.replicate 5 AV.bot) = Z
    have hbt := htk.spend
    refine sN ?_
    refine AL.loopT (mulX3 out Z nb box (upd tok' tk false) nt') (fun k => k ≤ out.length) (fun k => out.length - k) 0 (Nat.zero_le _) (Weaks.mk htk.le rfl (by simp [ToL, lk, lb_at]) (by simp only [BoxL, lk_cons, ↓reduceIte, and_true]; exact ⟨_, rfl, mul_rt nmL0 hRm⟩)) ?_
    rintro k X hk hS
    simp only [mulX3] at hS
    subst hS
    have hwk := sW (i := k) (by omega)
    by_cases hlk : k < out.length
    ·have hit := itoaD_c k (by omega)
     have hsz := dgB_size (i := k) (by omega)
     have hget := nmL_row hlk Z
     have hput := nmL_put hlk Z
     try (simp [hlk])
     repeat (first | (refine sR ?_; simp [hlk]) | (refine sC ?_; simp [hlk]) | (refine sX ?_; simp only [AU, ↓reduceIte]))
     refine Stop.of_d (hit _ _) ?_
     simp [hget, hput]
     refine ⟨by have h1 : (⟨#[109]⟩ : ByteArray).size = 1 := rfl; omega, ?_⟩
     try refine ⟨hlk, ?_⟩
     try (simp [hget, hput, hwk])
     repeat (first | (refine sR ?_; simp [hget, hput, hwk]) | (refine sC ?_; simp [hget, hput, hwk]) | (refine sX ?_; simp only [AU, ↓reduceIte]))
     refine sE ?_
     exact ⟨k + 1, hlk, by omega, Weaks.mk htk.le rfl (by simp [ToL, lk, lb_at]) (by simp only [BoxL, lk_cons, ↓reduceIte, and_true]; exact ⟨_, rfl, mul_rt rfl hRm⟩)⟩
    ·have : k = out.length := by omega
     subst this
     have hll := nmL_len out out.length
     generalize nmL out out.length = F at *
     try (simp)
     repeat (first | (refine sR ?_; simp) | (refine sC ?_; simp) | (refine sX ?_; simp only [AU, ↓reduceIte]))
     refine AL.weak (Weaks.mk (l' := [(3, I 0), (2, .msl (nb + 7) 0 out.length 5)]) (loc' := [(7, rowsD (rCo F) ++ Z)]) htk.le rfl (by simp [ToL, lk, lb_at]) (by simp only [BoxL, lk_cons, ↓reduceIte, and_true]; exact ⟨_, rfl, mul_rt rfl hRm⟩)) ?_
     refine AL.trans (Trans.sealD (l' := [(3, I 0), (2, .d (.sl 5 (rCo F)))]) (loc := []) (loc' := []) 7 5 (rCo F) Z 2 rfl (fun e he => by obtain ⟨c, _, rfl⟩ := List.mem_map.1 he; rfl) (by simp [tl_cons, hll]) rfl ⟨rfl, .same (by simp), rfl, by have := @SpTo.msl (nb + 7) 5 (rCo F); rw [List.length_map, hll] at this; exact this, trivial⟩ trivial) ?_
     refine sN ?_
     refine AL.ret ?_
     try simp only [AU]
     exact ⟨by simp, (Fin.data (av := .tup [.d (.sl 5 (rCo F)), I 0]) (by simp [resAs, resA]; rfl) hbox rfl htok hbt.old htk.le (by simp [packA])).mono fun v m hq => ⟨hq.2, .inl (by rw [hR2, hq.1])⟩⟩
 ·have hR : mulR t = ([], bdR t) := by unfold mulR; rw [if_pos e0]
  have b : (bdR t != 0) = true := by simp [e0]
  try (simp [b])
  repeat (first | (refine sR ?_; simp [b]) | (refine sC ?_; simp [b]) | (refine sX ?_; simp only [AU, ↓reduceIte]))
  refine sN ?_
  refine AL.ret ?_
  try simp only [AU]
  exact ⟨by simp, (Fin.data (av := .tup [.osl 0 [] .full, I (bdR t)]) (by simp [resAs, resA]; rfl) hbox rfl htok (fun _ h => h) (Nat.le_refl _) (by simp [packA])).mono fun v m hq => ⟨hq.2, .inr ⟨by rw [hR], by rw [hR, hq.1]⟩⟩⟩
end Go.AM
namespace Go.AM
open Go Go.Proofs
def oneC : Co := ⟨⟨#[111, 110, 101]⟩, 1, ⟨[3, 3, 1], [⟨0, 0, 2⟩, ⟨0, 1, 2⟩]⟩, []⟩
def oneG : Gr := ⟨[3, 1, 1], [⟨0, 0, 1⟩, ⟨0, 0, 2⟩]⟩
def oneH : Gr := ⟨[3, 1, 1, 3], [⟨0, 0, 1⟩, ⟨0, 0, 2⟩, ⟨0, 3, 1⟩]⟩
theorem aw42a : (vioS exT oneC oneG fun _ => true).2 = 0 ∧ (vioS exT oneC oneG fun _ => true).1.length = 0 := by decide +kernel
theorem aw42b : (vioS exT oneC oneH fun _ => true).2 = 0 ∧ (vioS exT oneC oneH fun _ => true).1.length = 2 := by decide +kernel
theorem aw42c : (mulR exT).2 = 0 ∧ (mulR exT).1.length = 6 := by decide +kernel
theorem aw42d : cnE exT oneC = 0 := by decide +kernel
theorem oneC_fit : oneC.Fit := ⟨by decide, ⟨by decide, by decide⟩, by decide, by simp [oneC]⟩
set_option maxRecDepth 100000 in
theorem awake42_c (tok : Tks) (nt : Nat) : DCall Tryz.prog 12 [] tok nt (B true) tok nt := by
 intro box nb
 have hE := example04_c
 have h1 := violationsK_c exT exT_fit oneC oneC_fit oneG ⟨by decide, by decide⟩ (fun _ => true) (fun h => absurd rfl h)
 have h2 := violationsK_c exT exT_fit oneC oneC_fit oneH ⟨by decide, by decide⟩ (fun _ => true) (fun h => absurd rfl h)
 have h3 := multP_c exT exT_fit
 have h4 := validK_c exT exT_fit oneC oneC_fit
 obtain ⟨a1, a2⟩ := aw42a
 obtain ⟨b1, b2⟩ := aw42b
 obtain ⟨c1, c2⟩ := aw42c
 rw [aw42d] at h4
 generalize vioS exT oneC oneG (fun _ => true) = L at *
 generalize vioS exT oneC oneH (fun _ => true) = M at *
 generalize mulR exT = U at *
 refine sB Tryz.func12 Tryz.ntmps12 ?_
 intro hbox htok
 simp only at hbox htok
 apply AL.start
 try (simp)
 repeat (refine sR ?_; simp)
 refine Stop.of_d (hE _ _) ?_
 simp
 try (simp)
 repeat (first | (refine sR ?_; simp) | (refine sC ?_; simp) | (refine sX ?_; simp only [AU, ↓reduceIte]))
 try refine ⟨rfl, ?_⟩
 try (simp)
 repeat (first | (refine sR ?_; simp) | (refine sC ?_; simp) | (refine sX ?_; simp only [AU, ↓reduceIte]))
 try refine ⟨rfl, ?_⟩
 try (simp)
 repeat (first | (refine sR ?_; simp) | (refine sC ?_; simp) | (refine sX ?_; simp only [AU, ↓reduceIte]))
 try refine ⟨rfl, ?_⟩
 try (simp)
 repeat (first | (refine sR ?_; simp) | (refine sC ?_; simp) | (refine sX ?_; simp only [AU, ↓reduceIte]))
 try refine ⟨rfl, ?_⟩
 try (simp)
 repeat (first | (refine sR ?_; simp) | (refine sC ?_; simp) | (refine sX ?_; simp only [AU, ↓reduceIte]))
 try refine ⟨rfl, ?_⟩
 try (simp)
 repeat (first | (refine sR ?_; simp) | (refine sC ?_; simp) | (refine sX ?_; simp only [AU, ↓reduceIte]))
 try refine ⟨rfl, ?_⟩
 try (simp)
 repeat (first | (refine sR ?_; simp) | (refine sC ?_; simp) | (refine sX ?_; simp only [AU, ↓reduceIte]))
 refine Stop.sub (args' := [exT.av, oneC.av, oneG.av]) ⟨Sub.refl _, Sub.agg ⟨Sub.refl _, Sub.refl _, Sub.data _ _ _, Sub.data _ _ _, Sub.nil _ _ _, trivial⟩, Sub.agg ⟨Sub.data _ _ _, Sub.data _ _ _, trivial⟩, trivial⟩ ?_
 refine Stop.of_d (h1 _ _) ?_
 try (simp)
 repeat (first | (refine sR ?_; simp) | (refine sC ?_; simp) | (refine sX ?_; simp only [AU, ↓reduceIte]))
 refine Stop.sub (args' := [exT.av, oneC.av, oneH.av]) ⟨Sub.refl _, Sub.agg ⟨Sub.refl _, Sub.refl _, Sub.data _ _ _, Sub.data _ _ _, Sub.nil _ _ _, trivial⟩, Sub.agg ⟨Sub.data _ _ _, Sub.data _ _ _, trivial⟩, trivial⟩ ?_
 refine Stop.of_d (h2 _ _) ?_
 try (simp)
 repeat (first | (refine sR ?_; simp) | (refine sC ?_; simp) | (refine sX ?_; simp only [AU, ↓reduceIte]))
 refine Stop.of_a (h3 _ _ _ _) ?_
 rintro v m' ⟨rfl, rfl | ⟨e, rfl⟩⟩
 ·try (simp [a1, a2, b1, b2, c1, c2])
  repeat (first | (refine sR ?_; simp [a1, a2, b1, b2, c1, c2]) | (refine sC ?_; simp [a1, a2, b1, b2, c1, c2]) | (refine sX ?_; simp only [AU, ↓reduceIte]))
  refine Stop.sub (args' := [exT.av, oneC.av]) ⟨Sub.refl _, Sub.agg ⟨Sub.refl _, Sub.refl _, Sub.data _ _ _, Sub.data _ _ _, Sub.nil _ _ _, trivial⟩, trivial⟩ ?_
  refine Stop.of_d (h4 _ _) ?_
  try (simp)
  repeat (first | (refine sR ?_; simp) | (refine sC ?_; simp) | (refine sX ?_; simp only [AU, ↓reduceIte]))
  refine sT ?_
  try simp only [AU]
  refine ⟨by simp, sF hbox htok (fun t ht => by have := htok t ht; rw [upd_other _ _ (by omega), upd_other _ _ (by omega)]; exact ht) (by omega) ?_⟩
  simp [packA, packA]
 ·rw [e] at c2
  cases c2
end Go.AM
namespace Go.AM
open Go Go.Proofs
theorem fewM_fit2 {m : Mo} (h : fewM m 140 = true) : m.Fit := by
 simp [fewM] at h
 exact ⟨by omega, by omega⟩
end Go.AM
namespace Go.AM
open Go Go.ChangeShapes
variable {P : Program}
def Rd (w : World) (cs : List Value) (ds : List D) : Prop := cs.length = ds.length ∧ ∀ i (h1 : i < cs.length) (h2 : i < ds.length), RVd w.cell? (fun _ => True) ds[i] cs[i]
theorem Rd.append {w : World} {cs cs' : List Value} {ds ds' : List D} (h : Rd w cs ds) (k : Rd w cs' ds') : Rd w (cs ++ cs') (ds ++ ds') := by
 refine ⟨by simp [h.1, k.1], fun i h1 h2 => ?_⟩
 by_cases hi : i < cs.length
 ·rw [List.getElem_append_left hi, List.getElem_append_left (by rw [← h.1]; exact hi)]
  exact h.2 i hi _
 ·have hl := h.1
  rw [List.getElem_append_right (by omega), List.getElem_append_right (by omega)]
  have := k.2 (i - cs.length) (by simp at h1; omega) (by have := k.1; simp at h1; omega)
  simpa [hl] using this
theorem Rd.one {w : World} {c : Value} {d : D} (h : RVd w.cell? (fun _ => True) d c) : Rd w [c] [d] := ⟨rfl, fun i h1 h2 => by
 have : i = 0 := by simpa using h1
 subst this
 exact h⟩
def Light {H : Type} (P : Program) (T : TypeId) (d : DataW H) : Prop := (d.weights P T).all (· ≤ reachBytes) = true
structure Rdr (P : Program) (T : TypeId) (α : Type) where
 enc : α → List D
 ok : α → Prop
 len : ∀ x, (enc x).length = P.cellsOf T
 sound : ∀ {H : Type} (e : TypeId × Value → H) (w : World) (base : Nat) (spare : Nat → Bool) (held : Bool) (fuel : Nat) (cs : List Value) (x : DataW H × List MemPlace),
  DataW.trod e P w base spare held fuel T cs = some x → ∃ y, Rd w cs (enc y) ∧ (Light P T x.1 → ok y)
def Rdr.int {T : TypeId} {k : IntKind} (h : P.underlying T = some (.int k)) (hc : P.cellsOf T = 1) : Rdr P T Int where
 enc n := [.raw (.int k n)]
 ok n := (Lit.int k n).wf = true
 len _ := by simp [hc]
 sound e w base spare held fuel cs x hx := by
  cases fuel with
  | zero => simp [DataW.trod] at hx
  | succ n =>
   unfold DataW.trod at hx
   rw [h] at hx
   split at hx <;> simp_all
   rename_i k' n' _
   exact ⟨n', Rd.one (.raw rfl), fun _ => hx.1.2⟩
theorem cells_spec {w : World} {base : Nat} {a : Addr} {n : Nat} {l : List Value} (h : w.cells? base a n = some l) : l.length = n ∧ ∀ i (hi : i < l.length), w.cell? (a.add i) = some l[i] := by
 unfold World.cells? at h
 split at h
 ·have h1 : l.length = n := by have := mapM_some_length h; simpa using this
  refine ⟨h1, fun i hi => ?_⟩
  have hin : i < n := by omega
  have := mapM_some_get h i i (by simp [hin])
  rw [this]
  exact List.getElem?_eq_getElem hi
 ·cases h
theorem light_slice {H : Type} {T E : TypeId} (h : P.underlying T = some (.slice E)) {elems rest : List (DataW H)} (hl : Light P T (.slice elems rest)) : elems.length * P.bytesOf E ≤ reachBytes ∧ ∀ d ∈ elems, Light P E d := by
 unfold Light at hl ⊢
 simp only [DataW.weights, h, List.all_cons, List.all_append, Bool.and_eq_true, decide_eq_true_eq] at hl
 refine ⟨Nat.le_trans (Nat.mul_le_mul_right _ (Nat.le_add_right _ _)) hl.1, ?_⟩
 have key : ∀ l : List (DataW H), (DataW.weightsAll P E l).all (· ≤ reachBytes) = true → ∀ d ∈ l, (d.weights P E).all (· ≤ reachBytes) = true := by
  intro l
  induction l with
  | nil => intro _ d hd; simp at hd
  | cons x l ih =>
   intro hx d hd
   simp only [DataW.weightsAll, List.all_append, Bool.and_eq_true] at hx
   rcases List.mem_cons.1 hd with rfl | hd
   ·exact hx.1
   ·exact ih hx.2 d hd
 exact key elems hl.2.1
def Rdr.slice {T E : TypeId} {α : Type} (r : Rdr P E α) (h : P.underlying T = some (.slice E)) (hc : P.cellsOf T = 1) : Rdr P T (List α) where
 enc l := [.sl (P.cellsOf E) (l.map r.enc)]
 ok l := (∀ x ∈ l, r.ok x) ∧ l.length * P.bytesOf E ≤ reachBytes
 len _ := by simp [hc]
 sound e w base spare held fuel cs x hx := by
  rcases DataW.trod_slice h hx with ⟨rfl, rfl⟩ | ⟨a, len, cap, elems, rest, n, rfl, rfl, rfl, hb, hl, hm, hel, hat, _⟩
  ·exact ⟨[], Rd.one (.sl (es := []) (fun _ _ => default) (Nat.le_refl _) (by decide) (by simp) (by simp) (by simp) (by simp)), fun _ => ⟨by simp, by simp⟩⟩
  ·have key : ∀ i (hi : i < elems.length), ∃ cs y, cs.length = P.cellsOf E ∧ (∀ j (hj : j < cs.length), w.cell? (a.add (i * P.cellsOf E + j)) = some cs[j]) ∧ Rd w cs (r.enc y) ∧ (Light P E elems[i].1 → r.ok y) := by
    intro i hi
    have h1 := hat i (by omega)
    have h2 : elems[i]? = some elems[i] := List.getElem?_eq_getElem hi
    rw [h2, Option.bind_eq_some_iff] at h1
    obtain ⟨cs, hcs, htr⟩ := h1
    obtain ⟨hcl, hcc⟩ := cells_spec hcs
    obtain ⟨y, hy, hok⟩ := r.sound e w base spare held n cs _ htr
    refine ⟨cs, y, hcl, fun j hj => ?_, hy, hok⟩
    rw [← Addr.add_add]
    exact hcc j hj
   have pick : ∀ m, m ≤ elems.length → ∃ ys : List α, ys.length = m ∧ (∀ i (hi : i < ys.length) (hi2 : i < elems.length), ∃ cs, cs.length = P.cellsOf E ∧ (∀ j (hj : j < cs.length), w.cell? (a.add (i * P.cellsOf E + j)) = some cs[j]) ∧ Rd w cs (r.enc ys[i]) ∧ (Light P E elems[i].1 → r.ok ys[i])) := by
    intro m
    induction m with
    | zero => intro _; exact ⟨[], rfl, fun i hi => by simp at hi⟩
    | succ m ih =>
     intro hm'
     obtain ⟨ys, hys, hall⟩ := ih (by omega)
     obtain ⟨cs, y, g1, g2, g3, g4⟩ := key m (by omega)
     refine ⟨ys ++ [y], by simp [hys], fun i hi hi2 => ?_⟩
     by_cases him : i < ys.length
     ·rw [List.getElem_append_left him]
      exact hall i him hi2
     ·have : i = m := by simp at hi; omega
      subst this
      have e1 : (ys ++ [y])[i] = y := by
       rw [List.getElem_append_right (by omega)]
       simp
      rw [e1]
      exact ⟨cs, g1, g2, g3, g4⟩
   obtain ⟨ys, hys, hall⟩ := pick elems.length (Nat.le_refl _)
   refine ⟨ys, Rd.one ?_, fun hli => ?_⟩
   ·have hlen : len = ys.length := by omega
    subst hlen
    have hml : ys.length = (ys.map r.enc).length := by simp
    rw [hml]
    refine .sl (fun i j => (w.cell? (a.add (i * P.cellsOf E + j))).getD default) (by simpa using hl) hm (fun e he => ?_) (fun _ => ⟨a, rfl⟩) (fun a' ha' i j hi hj => ?_) (fun i j hi hj => ?_)
    ·obtain ⟨y, _, rfl⟩ := List.mem_map.1 he
     exact r.len y
    ·cases ha'
     obtain ⟨cs, g1, g2, _⟩ := hall i (by simpa using hi) (by simp at hi; omega)
     rw [g2 j (by omega)]
     exact ⟨trivial, rfl⟩
    ·obtain ⟨cs, g1, g2, g3, _⟩ := hall i (by simpa using hi) (by simp at hi; omega)
     simp only [List.getElem_map] at hj ⊢
     have hjc : j < cs.length := by rw [g3.1]; exact hj
     rw [g2 j hjc]
     exact g3.2 j hjc hj
   ·obtain ⟨w1, w2⟩ := light_slice h hli
    refine ⟨fun y hy => ?_, by simpa [hys] using w1⟩
    obtain ⟨i, hi, rfl⟩ := List.getElem_of_mem hy
    obtain ⟨_, _, _, _, h4⟩ := hall i hi (by omega)
    exact h4 (w2 _ (List.mem_map.2 ⟨_, List.getElem_mem _, rfl⟩))
def Rdr.map {T : TypeId} {α β : Type} (r : Rdr P T α) (f : α → β) (enc : β → List D) (ok : β → Prop) (he : ∀ x, enc (f x) = r.enc x) (hok : ∀ x, r.ok x → ok (f x)) (hl : ∀ y, (enc y).length = P.cellsOf T) : Rdr P T β where
 enc := enc
 ok := ok
 len := hl
 sound e w base spare held fuel cs x hx := by
  obtain ⟨y, h1, h2⟩ := r.sound e w base spare held fuel cs x hx
  exact ⟨f y, by rw [he]; exact h1, fun hl => hok y (h2 hl)⟩
def Rdr.sliceN {T E : TypeId} {α : Type} (r : Rdr P E α) (n : Nat) (h : P.underlying T = some (.slice E)) (hc : P.cellsOf T = 1) (hn : P.cellsOf E = n) : Rdr P T (List α) where
 enc l := [.sl n (l.map r.enc)]
 ok l := (∀ x ∈ l, r.ok x) ∧ l.length * P.bytesOf E ≤ reachBytes
 len _ := by simp [hc]
 sound := by
  subst hn
  exact (Rdr.slice r h hc).sound
theorem list2 {α : Type} {l : List α} (h : l.length = 2) : l = [l[0]'(by omega), l[1]'(by omega)] := by
 match l, h with
 | [p, q], _ => rfl
theorem list3 {α : Type} {l : List α} (h : l.length = 3) : l = [l[0]'(by omega), l[1]'(by omega), l[2]'(by omega)] := by
 match l, h with
 | [p, q, r], _ => rfl
def Rdr.struct2 {T A B : TypeId} {α β : Type} (r : Rdr P A α) (s : Rdr P B β) {f0 f1 : Field} (h : P.underlying T = some (.struct #[f0, f1])) (hA : f0.type = A) (hB : f1.type = B) (h0 : f0.offset = 0) (h1 : f1.offset = P.cellsOf A)
  (hc : P.cellsOf T = P.cellsOf A + P.cellsOf B) : Rdr P T (α × β) where
 enc x := r.enc x.1 ++ s.enc x.2
 ok x := r.ok x.1 ∧ s.ok x.2
 len x := by simp [r.len, s.len, hc]
 sound e w base spare held fuel cs x hx := by
  obtain ⟨xs, n, rfl, rfl, hl, hxs, hat⟩ := DataW.trod_struct h hx
  have hxs' : xs.length = 2 := hxs
  have g0 := hat 0 f0 rfl
  have g1 := hat 1 f1 rfl
  have e0 : xs[0]? = some (xs[0]'(by omega)) := List.getElem?_eq_getElem (by omega)
  have e1 : xs[1]? = some (xs[1]'(by omega)) := List.getElem?_eq_getElem (by omega)
  rw [e0, h0, hA] at g0
  rw [e1, h1, hB] at g1
  obtain ⟨y, k1, k2⟩ := r.sound e w base spare held n _ _ g0
  obtain ⟨z, m1, m2⟩ := s.sound e w base spare held n _ _ g1
  refine ⟨(y, z), ?_, fun hli => ?_⟩
  rotate_left
  ·unfold Light at hli k2 m2
   have e2 : xs = [xs[0]'(by omega), xs[1]'(by omega)] := list2 hxs'
   rw [e2] at hli
   simp only [List.map_cons, List.map_nil, DataW.weights, h, DataW.weightsEach, hA, hB, List.all_append, Bool.and_eq_true] at hli
   exact ⟨k2 hli.1, m2 hli.2.1⟩
  have hcs : cs = (cs.drop 0).take (P.cellsOf A) ++ (cs.drop (P.cellsOf A)).take (P.cellsOf B) := by
   have : (cs.drop (P.cellsOf A)).take (P.cellsOf B) = cs.drop (P.cellsOf A) := List.take_of_length_le (by simp; omega)
   rw [this, List.drop_zero, List.take_append_drop]
  rw [hcs]
  exact k1.append m1
def Rdr.struct3 {T A B C : TypeId} {α β γ : Type} (r : Rdr P A α) (s : Rdr P B β) (t : Rdr P C γ) {f0 f1 f2 : Field} (h : P.underlying T = some (.struct #[f0, f1, f2])) (hA : f0.type = A) (hB : f1.type = B) (hC : f2.type = C)
  (h0 : f0.offset = 0) (h1 : f1.offset = P.cellsOf A) (h2 : f2.offset = P.cellsOf A + P.cellsOf B) (hc : P.cellsOf T = P.cellsOf A + P.cellsOf B + P.cellsOf C) : Rdr P T (α × β × γ) where
 enc x := r.enc x.1 ++ (s.enc x.2.1 ++ t.enc x.2.2)
 ok x := r.ok x.1 ∧ s.ok x.2.1 ∧ t.ok x.2.2
 len x := by simp [r.len, s.len, t.len, hc]; omega
 sound e w base spare held fuel cs x hx := by
  obtain ⟨xs, n, rfl, rfl, hl, hxs, hat⟩ := DataW.trod_struct h hx
  have hxs' : xs.length = 3 := hxs
  have g0 := hat 0 f0 rfl
  have g1 := hat 1 f1 rfl
  have g2 := hat 2 f2 rfl
  have e0 : xs[0]? = some (xs[0]'(by omega)) := List.getElem?_eq_getElem (by omega)
  have e1 : xs[1]? = some (xs[1]'(by omega)) := List.getElem?_eq_getElem (by omega)
  have e2 : xs[2]? = some (xs[2]'(by omega)) := List.getElem?_eq_getElem (by omega)
  rw [e0, h0, hA] at g0
  rw [e1, h1, hB] at g1
  rw [e2, h2, hC] at g2
  obtain ⟨y, k1, k2⟩ := r.sound e w base spare held n _ _ g0
  obtain ⟨z, m1, m2⟩ := s.sound e w base spare held n _ _ g1
  obtain ⟨q, p1, p2⟩ := t.sound e w base spare held n _ _ g2
  refine ⟨(y, z, q), ?_, fun hli => ?_⟩
  rotate_left
  ·unfold Light at hli k2 m2 p2
   have e2 : xs = [xs[0]'(by omega), xs[1]'(by omega), xs[2]'(by omega)] := list3 hxs'
   rw [e2] at hli
   simp only [List.map_cons, List.map_nil, DataW.weights, h, DataW.weightsEach, hA, hB, hC, List.all_append, Bool.and_eq_true] at hli
   exact ⟨k2 hli.1, m2 hli.2.1, p2 hli.2.2.1⟩
  have hcs : cs = (cs.drop 0).take (P.cellsOf A) ++ ((cs.drop (P.cellsOf A)).take (P.cellsOf B) ++ (cs.drop (P.cellsOf A + P.cellsOf B)).take (P.cellsOf C)) := by
   have : (cs.drop (P.cellsOf A + P.cellsOf B)).take (P.cellsOf C) = cs.drop (P.cellsOf A + P.cellsOf B) := List.take_of_length_le (by simp; omega)
   rw [this, ← List.drop_drop, List.take_append_drop, List.drop_zero, List.take_append_drop]
  rw [hcs]
  exact k1.append (m1.append p1)
def G0 : Gh := ⟨fun _ => none, fun _ => none, fun _ => .whole, 0⟩
def m0 : AMem := ⟨fun _ => none, 0, fun _ => false, 0⟩
theorem G0_ps (a : Addr) : G0.ps a := trivial
theorem relM_start (W : World) : RelM G0 m0 W := by
 constructor
 case box => intro k rows b sz h; cases h
 case nobox => intro k _; rfl
 case inj => intro k k' b sz sz' h; cases h
 case nb => intro k _; rfl
 case nt => rfl
 case toks => intro t h; cases h
 case tokb => intro t g h; cases h
 case tinj => intro t t' g h; cases h
 case tnt => intro t x h; cases h
 case fresh => intro b _; rfl
theorem RVd.start {W : World} {d : D} {v : Value} (h : RVd W.cell? (fun _ => True) d v) : RVd W.cell? G0.ps d v := h.mono fun a u _ hc => ⟨G0_ps a, hc⟩
theorem Rdr.agg {T : TypeId} {α : Type} (r : Rdr P T α) {W : World} {base base' : Nat} {sp : Nat → Bool} {held : Bool} {H : Type} {enc : TypeId × Value → H} {v : Value} {d : DataW H} {p : List MemPlace}
  (hs : aggT P T = some true) (hv : Value.okWide P W .any base T v) (h : DataW.Trod enc P W base' sp held T v d p) (hli : Light P T d) : ∃ y, r.ok y ∧ RV G0 W (.agg ((r.enc y).map .d)) v := by
 have hcs : ∃ cs, v = .agg cs := by
  unfold aggT at hs
  unfold Value.okWide at hv
  cases hu : P.underlying T with
  | none => rw [hu] at hs; simp at hs
  | some u =>
   rw [hu] at hs hv
   cases u <;> simp at hs hv <;> exact ⟨_, hv.choose_spec.1⟩
 obtain ⟨cs, rfl⟩ := hcs
 obtain ⟨fuel, h⟩ := h
 obtain ⟨y, ⟨h1, h2⟩, hok⟩ := r.sound enc W base' sp held fuel _ _ h
 refine ⟨y, hok hli, ?_⟩
 simp only [Value.cells] at h1 h2
 have := RV.agg (G := G0) (w := W) (cs := (r.enc y).map .d) (vs := cs.toList) (by simp [h1]) (fun i g1 g2 => by
  simp only [List.getElem_map]
  exact .d (h2 i g2 (by simpa using g1)).start) (fun v hv => by
  obtain ⟨i, hi, rfl⟩ := List.getElem_of_mem hv
  exact (h2 i hi (by omega)).one)
 simpa using this
theorem Rdr.cell {T : TypeId} {α : Type} (r : Rdr P T α) {W : World} {base base' : Nat} {sp : Nat → Bool} {held : Bool} {H : Type} {enc : TypeId × Value → H} {v : Value} {d : DataW H} {p : List MemPlace} (f : α → D)
  (hs : aggT P T = some false) (hf : ∀ y, r.enc y = [f y]) (hv : Value.okWide P W .any base T v) (h : DataW.Trod enc P W base' sp held T v d p) (hli : Light P T d) : ∃ y, r.ok y ∧ RV G0 W (.d (f y)) v := by
 obtain ⟨fuel, h⟩ := h
 obtain ⟨y, ⟨h1, h2⟩, hok⟩ := r.sound enc W base' sp held fuel _ _ h
 refine ⟨y, hok hli, ?_⟩
 rw [hf] at h1
 have hcs : v.cells.toList = [v] := by
  cases v with
  | agg cs =>
   exfalso
   unfold aggT at hs
   unfold Value.okWide Cell.okWide Cell.ok at hv
   cases hu : P.underlying T with
   | none => rw [hu] at hs; simp at hs
   | some u =>
    rw [hu] at hs hv
    cases u <;> simp_all
  | _ => rfl
 have := h2 0 (by rw [h1]; simp) (by rw [hf]; simp)
 simp only [hf, List.getElem_cons_zero] at this
 have e : v.cells.toList[0]'(by rw [h1]; simp) = v := by simp [hcs]
 rw [e] at this
 exact .d this.start
theorem light_arg {H : Type} {ts : List TypeId} {ds : List (DataW H)} (hz : (DataW.weightsEach P ts ds).all (· ≤ reachBytes) = true) {j : Nat} {T : TypeId} {d : DataW H} (ht : ts[j]? = some T) (hd : ds[j]? = some d) : Light P T d :=
 List.all_eq_true.2 fun x hx => List.all_eq_true.1 hz x (DataW.weights_mem_each ht hd x hx)
theorem arg_agg {ps : Array TypeId} {args : Array Value} {W : World} {base base' : Nat} {sp : Nat → Bool} {held : Bool} {H : Type} {enc : TypeId × Value → H} (hval : ∀ (j : Nat) t v, ps[j]? = some t → args[j]? = some v → Value.okWide P W .any base t v)
  (j : Nat) (T : TypeId) (v : Value) (hp : ps[j]? = some T) (ha : args[j]? = some v) {α : Type} (r : Rdr P T α) {d : DataW H} {p : List MemPlace} (hs : aggT P T = some true) (h : DataW.Trod enc P W base' sp held T v d p) (hli : Light P T d) :
  ∃ y, r.ok y ∧ RV G0 W (.agg ((r.enc y).map .d)) v := r.agg hs (hval j T v hp ha) h hli
theorem le_old {W W' : World} {G' : Gh} (h : Le G0 W G' W') (b : Nat) (hb : b < W.heap.size) : W'.heap[b]? = W.heap[b]? := (h.whole b hb rfl).2
theorem le_kept {W W' : World} {G' : Gh} (h : Le G0 W G' W') (may : MemPlace → Prop) : W.keptBut W' may := by
 refine ⟨h.os, h.output, fun i hi => ?_⟩
 rw [le_old h i hi]
 split
 ·rename_i c t fr c' t' fr' e1 e2
  rw [e1] at e2
  cases e2
  exact ⟨rfl, rfl, rfl, fun _ _ => rfl⟩
 ·rename_i e1 e2
  rw [e1] at e2
  cases e2
  exact .inr ⟨rfl, rfl⟩
 ·rfl
theorem le_same {W W' : World} {G' : Gh} (h : Le G0 W G' W') {p : MemPlace} (hp : p.block < W.heap.size) : W.sameAt W' p := by
 cases p with
 | cell b off => exact World.cell?_of_block (w := W) (a := ⟨b, off, none⟩) (le_old h b hp)
 | map b => exact le_old h b hp
theorem trodAll_stays {H : Type} {enc : TypeId × Value → H} {W W' : World} {T : TypeId → Prop} {sp' : Nat → Bool} (K : Kids P T) (hsz : ∀ {t e : TypeId}, T t → P.underlying t = some (.slice e) → 0 < P.cellsOf e) :
  ∀ {ts : List TypeId} {vs : List Value} {ds : List (DataW H)} {ps : List MemPlace}, (∀ t ∈ ts, T t) → DataW.TrodAll enc P W 0 (fun _ => true) true ts vs ds ps → (∀ p ∈ ps, W.sameAt W' p) → (∀ p ∈ ps, sp' p.block = true) →
  DataW.TrodAll enc P W' 0 sp' true ts vs ds ps
 | [], [], [], _, _, h, _, _ => h
 | t :: ts, v :: vs, d :: ds, _, hT, ⟨p, q, ⟨n, hn⟩, h2, e⟩, h3, h4 => by
  subst e
  exact ⟨p, q, ⟨n, DataW.trod_stays K hsz (fun h => by cases h) (hT t (by simp)) hn (fun x hx => h3 x (by simp [hx])) (fun x hx => h4 x (by simp [hx]))⟩,
   trodAll_stays K hsz (fun t ht => hT t (by simp [ht])) h2 (fun x hx => h3 x (by simp [hx])) (fun x hx => h4 x (by simp [hx])), rfl⟩
theorem law_of {f : FuncId} {fn : Func} {s : ChangeSpec} {H : Type} {enc : TypeId × Value → H} {W : World} {args : Array Value} {ds : List (DataW H)} {before : List MemPlace} {avs : List AV} {tok' : Nat → Bool} {nt' : Nat}
  (hl : laidOutB P = true) (hm : mapsRowed P = true) (hz : ((List.range P.types.size).all fun t => match P.underlying t with | some (.slice e) => decide (0 < P.cellsOf e) | _ => true) = true)
  (hpar : fn.params.all (· < P.types.size) = true) {tb : TypeId} (hres : fn.resultTypes = #[tb]) (hb : P.underlying tb = some .bool)
  (hvars : s.vars = []) (hfn : s.fn H ds = { results := [.lit (.bool true)], args := ds })
  (hW : DataW.Whole enc P fn.params.toList s.vars false W args.toList ds [] before) (hr : RVs G0 W avs args.toList) (hc : DCall P f avs (fun _ => false) 0 (B true) tok' nt') :
  Calls P f args W fun e W' => ∃ v, e = .returned v ∧ s.post enc P fn false true false false W args v W' := by
 have hcall := (hc (fun _ => none) 0).2 G0 W args.toList (relM_start W) hr
 simp only [Array.toArray_toList] at hcall
 refine hcall.mono ?_
 rintro e W' ⟨v, av, m', G', rfl, ⟨rfl, rfl⟩, _, _, hv, hle, _⟩
 cases hv with
 | d hv =>
  cases hv with
  | raw =>
   refine ⟨_, rfl, ?_⟩
   have hlt := hW.lt
   have hWW := hW
   obtain ⟨p, q, hA, hV, rfl, hfz, hnd⟩ := hW
   rw [hvars] at hV
   obtain ⟨_, rfl⟩ := trodVars_none hV
   simp only [List.append_nil] at hlt hfz hWW ⊢
   have hT : ∀ t ∈ fn.params.toList, t < P.types.size := fun t ht => by
    have := Array.all_eq_true_iff_forall_mem.1 hpar t (by simpa using ht)
    simpa using this
   have hsz : ∀ {t e : TypeId}, t < P.types.size → P.underlying t = some (.slice e) → 0 < P.cellsOf e := by
    intro t e ht hu
    have := List.all_eq_true.1 hz t (List.mem_range.2 ht)
    rw [hu] at this
    simpa using this
   have hargs : ∀ sp : Nat → Bool, (∀ x ∈ p, sp x.block = true) → DataW.TrodAll enc P W' 0 sp true fn.params.toList args.toList ds p := fun sp hsp =>
    trodAll_stays (kids_rows hl hm) hsz hT hA (fun x hx => le_same hle (hlt x hx)) hsp
   have hnat : (Value.bool true).resultList fn.resultTypes.size = [.bool true] := by rw [hres]; rfl
   have hresb : ∀ (b : Nat) (sp : Nat → Bool) (hd : Bool), DataW.TrodAll enc P W' b sp hd fn.resultTypes.toList ((Value.bool true).resultList fn.resultTypes.size) [.lit (.bool true)] [] := fun b sp hd => by
    rw [hnat, hres]
    exact trodAll_mk1 ⟨1, by simp [DataW.trod, hb, Value.cells]⟩
   have hfn' : s.fn H (ds ++ []) = { results := [.lit (.bool true)], args := ds } := by rw [List.append_nil]; exact hfn
   refine ⟨ds, [], p, [], p, [], hWW, ?_, ?_, ?_, World.keptBut_mono (fun _ f => f.elim) (le_kept hle fun _ => False), fun h => by cases h⟩
   ·rw [hfn']; exact hresb _ _ _
   ·rw [hfn']; exact hargs _ fun x hx => by simpa using hlt x hx
   ·rw [hfn', hvars]; exact rfl
end Go.AM
namespace Go.AM
open Go Go.Proofs
theorem own0 : ownKnob Tryz.prog.godebug = none := by kernel_rfl
theorem laidOut0 : laidOutB Tryz.prog = true := by kernel_rfl
theorem mapsRowed0 : mapsRowed Tryz.prog = true := by kernel_rfl
theorem slices0 : ((List.range Tryz.prog.types.size).all fun t => match Tryz.prog.underlying t with | some (.slice e) => decide (0 < Tryz.prog.cellsOf e) | _ => true) = true := by kernel_rfl
def rdInt : Rdr Tryz.prog 3 Int := Rdr.int (k := .i64) Tryz.underlying3 (by kernel_rfl)
def rdInts : Rdr Tryz.prog 26 (List Int) := rdInt.sliceN 1 Tryz.underlying26 (by kernel_rfl) (by kernel_rfl)
def rdEdge0 : Rdr Tryz.prog 139 (Int × Int × Int) := Rdr.struct3 rdInt rdInt rdInt Tryz.underlying139 rfl rfl rfl rfl (by kernel_rfl) (by kernel_rfl) (by kernel_rfl)
def rdEdge : Rdr Tryz.prog 139 E := rdEdge0.map (fun x => ⟨x.1, x.2.1, x.2.2⟩) E.cells (fun _ => True) (fun _ => rfl) (fun _ _ => trivial) (fun _ => by kernel_rfl)
def rdEdges : Rdr Tryz.prog 27 (List E) := rdEdge.sliceN 3 Tryz.underlying27 (by kernel_rfl) (by kernel_rfl)
def rdGraph0 : Rdr Tryz.prog 29 (List Int × List E) := Rdr.struct2 rdInts rdEdges Tryz.underlying29 rfl rfl rfl (by kernel_rfl) (by kernel_rfl)
end Go.AM
namespace Go.AM
open Go Go.Proofs Go.ChangeShapes
structure RdF (P : Program) (T : TypeId) {α : Type} (en : α → List D) (ok : α → Prop) (n : Nat) : Prop where
 sound : ∀ {H : Type} (e : TypeId × Value → H) (w : World) (base : Nat) (spare : Nat → Bool) (held : Bool) (cs : List Value) (x : DataW H × List MemPlace),
  DataW.trod e P w base spare held n T cs = some x → ∃ y, Rd w cs (en y) ∧ (Light P T x.1 → ok y)
theorem Rdr.f {P : Program} {T : TypeId} {α : Type} (r : Rdr P T α) (n : Nat) : RdF P T r.enc r.ok n := ⟨fun e w base spare held cs x hx => r.sound e w base spare held n cs x hx⟩
theorem RdF.zero {P : Program} {T : TypeId} {α : Type} {en : α → List D} {ok : α → Prop} : RdF P T en ok 0 := ⟨fun e w base spare held cs x hx => by simp [DataW.trod] at hx⟩
def Rdr.ofF {P : Program} {T : TypeId} {α : Type} (en : α → List D) (ok : α → Prop) (len : ∀ x, (en x).length = P.cellsOf T) (h : ∀ n, RdF P T en ok n) : Rdr P T α := ⟨en, ok, len, fun e w base spare held n cs x hx => (h n).sound e w base spare held cs x hx⟩
theorem RdF.slice {P : Program} {T E : TypeId} {α : Type} {en : α → List D} {ok : α → Prop} {n : Nat} (r : RdF P E en ok n) (k : Nat) (hk : P.cellsOf E = k) (hlen : ∀ x, (en x).length = k) (h : P.underlying T = some (.slice E)) :
  RdF P T (fun l : List α => [.sl k (l.map en)]) (fun l => (∀ x ∈ l, ok x) ∧ l.length * P.bytesOf E ≤ reachBytes) (n + 1) := by
 subst hk
 constructor
 intro H e w base spare held cs x hx
 rcases DataW.trod_slice h hx with ⟨rfl, rfl⟩ | ⟨a, len, cap, elems, rest, n', hn', rfl, rfl, hb, hl, hm, hel, hat, _⟩
 ·exact ⟨[], Rd.one (.sl (es := []) (fun _ _ => default) (Nat.le_refl _) (by decide) (by simp) (by simp) (by simp) (by simp)), fun _ => ⟨by simp, by simp⟩⟩
 ·obtain rfl : n' = n := by omega
  have key : ∀ i (hi : i < elems.length), ∃ cs y, cs.length = P.cellsOf E ∧ (∀ j (hj : j < cs.length), w.cell? (a.add (i * P.cellsOf E + j)) = some cs[j]) ∧ Rd w cs (en y) ∧ (Light P E elems[i].1 → ok y) := by
   intro i hi
   have h1 := hat i (by omega)
   have h2 : elems[i]? = some elems[i] := List.getElem?_eq_getElem hi
   rw [h2, Option.bind_eq_some_iff] at h1
   obtain ⟨cs, hcs, htr⟩ := h1
   obtain ⟨hcl, hcc⟩ := cells_spec hcs
   obtain ⟨y, hy, hok⟩ := r.sound e w base spare held cs _ htr
   refine ⟨cs, y, hcl, fun j hj => ?_, hy, hok⟩
   rw [← Addr.add_add]
   exact hcc j hj
  have pick : ∀ m, m ≤ elems.length → ∃ ys : List α, ys.length = m ∧ (∀ i (hi : i < ys.length) (hi2 : i < elems.length), ∃ cs, cs.length = P.cellsOf E ∧ (∀ j (hj : j < cs.length), w.cell? (a.add (i * P.cellsOf E + j)) = some cs[j]) ∧ Rd w cs (en ys[i]) ∧ (Light P E elems[i].1 → ok ys[i])) := by
   intro m
   induction m with
   | zero => intro _; exact ⟨[], rfl, fun i hi => by simp at hi⟩
   | succ m ih =>
    intro hm'
    obtain ⟨ys, hys, hall⟩ := ih (by omega)
    obtain ⟨cs, y, g1, g2, g3, g4⟩ := key m (by omega)
    refine ⟨ys ++ [y], by simp [hys], fun i hi hi2 => ?_⟩
    by_cases him : i < ys.length
    ·rw [List.getElem_append_left him]
     exact hall i him hi2
    ·have : i = m := by simp at hi; omega
     subst this
     have e1 : (ys ++ [y])[i] = y := by
      rw [List.getElem_append_right (by omega)]
      simp
     rw [e1]
     exact ⟨cs, g1, g2, g3, g4⟩
  obtain ⟨ys, hys, hall⟩ := pick elems.length (Nat.le_refl _)
  refine ⟨ys, Rd.one ?_, fun hli => ?_⟩
  ·have hlen' : len = ys.length := by omega
   subst hlen'
   have hml : ys.length = (ys.map en).length := by simp
   rw [hml]
   refine .sl (fun i j => (w.cell? (a.add (i * P.cellsOf E + j))).getD default) (by simpa using hl) hm (fun e he => ?_) (fun _ => ⟨a, rfl⟩) (fun a' ha' i j hi hj => ?_) (fun i j hi hj => ?_)
   ·obtain ⟨y, _, rfl⟩ := List.mem_map.1 he
    exact hlen y
   ·cases ha'
    obtain ⟨cs, g1, g2, _⟩ := hall i (by simpa using hi) (by simp at hi; omega)
    rw [g2 j (by omega)]
    exact ⟨trivial, rfl⟩
   ·obtain ⟨cs, g1, g2, g3, _⟩ := hall i (by simpa using hi) (by simp at hi; omega)
    simp only [List.getElem_map] at hj ⊢
    have hjc : j < cs.length := by rw [g3.1]; exact hj
    rw [g2 j hjc]
    exact g3.2 j hjc hj
  ·obtain ⟨w1, w2⟩ := light_slice h hli
   refine ⟨fun y hy => ?_, by simpa [hys] using w1⟩
   obtain ⟨i, hi, rfl⟩ := List.getElem_of_mem hy
   obtain ⟨_, _, _, _, h4⟩ := hall i hi (by omega)
   exact h4 (w2 _ (List.mem_map.2 ⟨_, List.getElem_mem _, rfl⟩))
theorem list4 {α : Type} {l : List α} (h : l.length = 4) : l = [l[0]'(by omega), l[1]'(by omega), l[2]'(by omega), l[3]'(by omega)] := by
 match l, h with
 | [p, q, r, s], _ => rfl
theorem RdF.struct4 {P : Program} {T A B C E : TypeId} {α β γ δ : Type} {ea : α → List D} {eb : β → List D} {ec : γ → List D} {ed : δ → List D} {oa : α → Prop} {ob : β → Prop} {oc : γ → Prop} {od : δ → Prop} {n : Nat}
  (r : RdF P A ea oa n) (s : RdF P B eb ob n) (t : RdF P C ec oc n) (u : RdF P E ed od n) {f0 f1 f2 f3 : Field} (h : P.underlying T = some (.struct #[f0, f1, f2, f3])) (hA : f0.type = A) (hB : f1.type = B) (hC : f2.type = C) (hE : f3.type = E)
  (h0 : f0.offset = 0) (h1 : f1.offset = P.cellsOf A) (h2 : f2.offset = P.cellsOf A + P.cellsOf B) (h3 : f3.offset = P.cellsOf A + P.cellsOf B + P.cellsOf C) (hc : P.cellsOf T = P.cellsOf A + P.cellsOf B + P.cellsOf C + P.cellsOf E) :
  RdF P T (fun x : α × β × γ × δ => ea x.1 ++ (eb x.2.1 ++ (ec x.2.2.1 ++ ed x.2.2.2))) (fun x => oa x.1 ∧ ob x.2.1 ∧ oc x.2.2.1 ∧ od x.2.2.2) (n + 1) := by
 constructor
 intro H e w base spare held cs x hx
 obtain ⟨xs, n', hn', rfl, hl, hxs, hat⟩ := DataW.trod_struct h hx
 obtain rfl : n' = n := by omega
 have hxs' : xs.length = 4 := hxs
 have g0 := hat 0 f0 rfl
 have g1 := hat 1 f1 rfl
 have g2 := hat 2 f2 rfl
 have g3 := hat 3 f3 rfl
 have e0 : xs[0]? = some (xs[0]'(by omega)) := List.getElem?_eq_getElem (by omega)
 have e1 : xs[1]? = some (xs[1]'(by omega)) := List.getElem?_eq_getElem (by omega)
 have e2 : xs[2]? = some (xs[2]'(by omega)) := List.getElem?_eq_getElem (by omega)
 have e3 : xs[3]? = some (xs[3]'(by omega)) := List.getElem?_eq_getElem (by omega)
 rw [e0, h0, hA] at g0
 rw [e1, h1, hB] at g1
 rw [e2, h2, hC] at g2
 rw [e3, h3, hE] at g3
 obtain ⟨y, k1, k2⟩ := r.sound e w base spare held _ _ g0
 obtain ⟨z, m1, m2⟩ := s.sound e w base spare held _ _ g1
 obtain ⟨q, p1, p2⟩ := t.sound e w base spare held _ _ g2
 obtain ⟨v, q1, q2⟩ := u.sound e w base spare held _ _ g3
 refine ⟨(y, z, q, v), ?_, fun hli => ?_⟩
 rotate_left
 ·unfold Light at hli k2 m2 p2 q2
  have e2 : xs = [xs[0]'(by omega), xs[1]'(by omega), xs[2]'(by omega), xs[3]'(by omega)] := list4 hxs'
  rw [e2] at hli
  simp only [List.map_cons, List.map_nil, DataW.weights, h, DataW.weightsEach, hA, hB, hC, hE, List.all_append, Bool.and_eq_true] at hli
  exact ⟨k2 hli.1, m2 hli.2.1, p2 hli.2.2.1, q2 hli.2.2.2.1⟩
 have hcs : cs = (cs.drop 0).take (P.cellsOf A) ++ ((cs.drop (P.cellsOf A)).take (P.cellsOf B) ++ ((cs.drop (P.cellsOf A + P.cellsOf B)).take (P.cellsOf C) ++ (cs.drop (P.cellsOf A + P.cellsOf B + P.cellsOf C)).take (P.cellsOf E))) := by
  have : (cs.drop (P.cellsOf A + P.cellsOf B + P.cellsOf C)).take (P.cellsOf E) = cs.drop (P.cellsOf A + P.cellsOf B + P.cellsOf C) := List.take_of_length_le (by simp; omega)
  rw [this]
  have e3 := List.take_append_drop (P.cellsOf C) (cs.drop (P.cellsOf A + P.cellsOf B))
  have e2 := List.take_append_drop (P.cellsOf B) (cs.drop (P.cellsOf A))
  rw [List.drop_drop] at e3 e2
  rw [e3, e2, List.drop_zero, List.take_append_drop]
 rw [hcs]
 exact k1.append (m1.append (p1.append q1))
theorem by_int : Tryz.prog.bytesOf 3 = 8 := by kernel_rfl
theorem by_edge : Tryz.prog.bytesOf 139 = 24 := by kernel_rfl
theorem rdInts_ok {l : List Int} (h : rdInts.ok l) : l.length ≤ bigN := by
 have h2 : l.length * Tryz.prog.bytesOf 3 ≤ reachBytes := h.2
 rw [by_int] at h2; unfold reachBytes at h2; rw [bigN_eq]; omega
theorem rdEdges_ok {l : List E} (h : rdEdges.ok l) : l.length ≤ bigN := by
 have h2 : l.length * Tryz.prog.bytesOf 139 ≤ reachBytes := h.2
 rw [by_edge] at h2; unfold reachBytes at h2; rw [bigN_eq]; omega
structure Gr.Big (g : Gr) : Prop where
 n : g.nodes.length ≤ bigN
 e : g.edges.length ≤ bigN
def rdGraphB : Rdr Tryz.prog 29 Gr := rdGraph0.map (fun x => ⟨x.1, x.2⟩) (fun g => [ints g.nodes, AM.edges g.edges]) Gr.Big (fun _ => rfl) (fun _ h => ⟨rdInts_ok h.1, rdEdges_ok h.2⟩) (fun _ => by kernel_rfl)
def rdMorph0 : Rdr Tryz.prog 38 (List Int × List Int) := Rdr.struct2 rdInts rdInts Tryz.underlying38 rfl rfl rfl (by kernel_rfl) (by kernel_rfl)
def Cd.rowD (c : Cd) : List D := [.raw (.int .i64 c.kind), conds c.kids, ints c.m.nodes, ints c.m.edges, ints c.g.nodes, AM.edges c.g.edges, slots c.sl, .raw (.int .i64 c.vars), tests c.te]
end Go.AM
namespace Go.AM
open Go Go.Proofs Go.ChangeShapes
def Rdr.str {P : Program} {T : TypeId} (h : P.underlying T = some .string) (hc : P.cellsOf T = 1) : Rdr P T ByteArray where
 enc n := [.raw (.string n)]
 ok n := n.size ≤ maxLen
 len _ := by simp [hc]
 sound e w base spare held fuel cs x hx := by
  cases fuel with
  | zero => simp [DataW.trod] at hx
  | succ n =>
   unfold DataW.trod at hx
   rw [h] at hx
   split at hx <;> simp_all
   exact ⟨_, Rd.one (.raw rfl), fun _ => hx.1⟩
def Rdr.bool {P : Program} {T : TypeId} (h : P.underlying T = some .bool) (hc : P.cellsOf T = 1) : Rdr P T Bool where
 enc n := [.raw (.bool n)]
 ok n := True
 len _ := by simp [hc]
 sound e w base spare held fuel cs x hx := by
  cases fuel with
  | zero => simp [DataW.trod] at hx
  | succ n =>
   unfold DataW.trod at hx
   rw [h] at hx
   split at hx <;> first | (simp_all; done) | skip
   exact ⟨_, Rd.one (.raw rfl), fun _ => trivial⟩
theorem list7 {α : Type} {l : List α} (h : l.length = 7) : l = [l[0]'(by omega), l[1]'(by omega), l[2]'(by omega), l[3]'(by omega), l[4]'(by omega), l[5]'(by omega), l[6]'(by omega)] := by
 match l, h with
 | [p0, p1, p2, p3, p4, p5, p6], _ => rfl
theorem RdF.struct7 {P : Program} {T T0 T1 T2 T3 T4 T5 T6 : TypeId} {a0 a1 a2 a3 a4 a5 a6 : Type} {e0 : a0 → List D} {e1 : a1 → List D} {e2 : a2 → List D} {e3 : a3 → List D} {e4 : a4 → List D} {e5 : a5 → List D} {e6 : a6 → List D} {o0 : a0 → Prop} {o1 : a1 → Prop} {o2 : a2 → Prop} {o3 : a3 → Prop} {o4 : a4 → Prop} {o5 : a5 → Prop} {o6 : a6 → Prop} {n : Nat}
  (r0 : RdF P T0 e0 o0 n) (r1 : RdF P T1 e1 o1 n) (r2 : RdF P T2 e2 o2 n) (r3 : RdF P T3 e3 o3 n) (r4 : RdF P T4 e4 o4 n) (r5 : RdF P T5 e5 o5 n) (r6 : RdF P T6 e6 o6 n) {f0 f1 f2 f3 f4 f5 f6 : Field} (h : P.underlying T = some (.struct #[f0, f1, f2, f3, f4, f5, f6])) (t0 : f0.type = T0) (t1 : f1.type = T1) (t2 : f2.type = T2) (t3 : f3.type = T3) (t4 : f4.type = T4) (t5 : f5.type = T5) (t6 : f6.type = T6)
  (h0 : f0.offset = 0) (h1 : f1.offset = P.cellsOf T0) (h2 : f2.offset = P.cellsOf T0 + P.cellsOf T1) (h3 : f3.offset = P.cellsOf T0 + P.cellsOf T1 + P.cellsOf T2) (h4 : f4.offset = P.cellsOf T0 + P.cellsOf T1 + P.cellsOf T2 + P.cellsOf T3) (h5 : f5.offset = P.cellsOf T0 + P.cellsOf T1 + P.cellsOf T2 + P.cellsOf T3 + P.cellsOf T4) (h6 : f6.offset = P.cellsOf T0 + P.cellsOf T1 + P.cellsOf T2 + P.cellsOf T3 + P.cellsOf T4 + P.cellsOf T5) (hc : P.cellsOf T = P.cellsOf T0 + P.cellsOf T1 + P.cellsOf T2 + P.cellsOf T3 + P.cellsOf T4 + P.cellsOf T5 + P.cellsOf T6) :
  RdF P T (fun x : a0 × a1 × a2 × a3 × a4 × a5 × a6 => e0 x.1 ++ (e1 x.2.1 ++ (e2 x.2.2.1 ++ (e3 x.2.2.2.1 ++ (e4 x.2.2.2.2.1 ++ (e5 x.2.2.2.2.2.1 ++ e6 x.2.2.2.2.2.2)))))) (fun x => o0 x.1 ∧ o1 x.2.1 ∧ o2 x.2.2.1 ∧ o3 x.2.2.2.1 ∧ o4 x.2.2.2.2.1 ∧ o5 x.2.2.2.2.2.1 ∧ o6 x.2.2.2.2.2.2) (n + 1) := by
 constructor
 intro H e w base spare held cs x hx
 obtain ⟨xs, n', hn', rfl, hl, hxs, hat⟩ := DataW.trod_struct h hx
 obtain rfl : n' = n := by omega
 have hxs' : xs.length = 7 := hxs
 have g0 := hat 0 f0 rfl
 have g1 := hat 1 f1 rfl
 have g2 := hat 2 f2 rfl
 have g3 := hat 3 f3 rfl
 have g4 := hat 4 f4 rfl
 have g5 := hat 5 f5 rfl
 have g6 := hat 6 f6 rfl
 have e0 : xs[0]? = some (xs[0]'(by omega)) := List.getElem?_eq_getElem (by omega)
 have e1 : xs[1]? = some (xs[1]'(by omega)) := List.getElem?_eq_getElem (by omega)
 have e2 : xs[2]? = some (xs[2]'(by omega)) := List.getElem?_eq_getElem (by omega)
 have e3 : xs[3]? = some (xs[3]'(by omega)) := List.getElem?_eq_getElem (by omega)
 have e4 : xs[4]? = some (xs[4]'(by omega)) := List.getElem?_eq_getElem (by omega)
 have e5 : xs[5]? = some (xs[5]'(by omega)) := List.getElem?_eq_getElem (by omega)
 have e6 : xs[6]? = some (xs[6]'(by omega)) := List.getElem?_eq_getElem (by omega)
 rw [e0, h0, t0] at g0
 rw [e1, h1, t1] at g1
 rw [e2, h2, t2] at g2
 rw [e3, h3, t3] at g3
 rw [e4, h4, t4] at g4
 rw [e5, h5, t5] at g5
 rw [e6, h6, t6] at g6
 obtain ⟨y0, k0, m0⟩ := r0.sound e w base spare held _ _ g0
 obtain ⟨y1, k1, m1⟩ := r1.sound e w base spare held _ _ g1
 obtain ⟨y2, k2, m2⟩ := r2.sound e w base spare held _ _ g2
 obtain ⟨y3, k3, m3⟩ := r3.sound e w base spare held _ _ g3
 obtain ⟨y4, k4, m4⟩ := r4.sound e w base spare held _ _ g4
 obtain ⟨y5, k5, m5⟩ := r5.sound e w base spare held _ _ g5
 obtain ⟨y6, k6, m6⟩ := r6.sound e w base spare held _ _ g6
 refine ⟨(y0, y1, y2, y3, y4, y5, y6), ?_, fun hli => ?_⟩
 rotate_left
 ·unfold Light at hli m0 m1 m2 m3 m4 m5 m6
  rw [list7 hxs'] at hli
  simp only [List.map_cons, List.map_nil, DataW.weights, h, DataW.weightsEach, t0, t1, t2, t3, t4, t5, t6, List.all_append, Bool.and_eq_true] at hli
  exact ⟨m0 hli.1, m1 hli.2.1, m2 hli.2.2.1, m3 hli.2.2.2.1, m4 hli.2.2.2.2.1, m5 hli.2.2.2.2.2.1, m6 hli.2.2.2.2.2.2.1⟩
 have hcs : cs = (cs.drop (0)).take (P.cellsOf T0) ++ ((cs.drop (P.cellsOf T0)).take (P.cellsOf T1) ++ ((cs.drop (P.cellsOf T0 + P.cellsOf T1)).take (P.cellsOf T2) ++ ((cs.drop (P.cellsOf T0 + P.cellsOf T1 + P.cellsOf T2)).take (P.cellsOf T3) ++ ((cs.drop (P.cellsOf T0 + P.cellsOf T1 + P.cellsOf T2 + P.cellsOf T3)).take (P.cellsOf T4) ++ ((cs.drop (P.cellsOf T0 + P.cellsOf T1 + P.cellsOf T2 + P.cellsOf T3 + P.cellsOf T4)).take (P.cellsOf T5) ++ ((cs.drop (P.cellsOf T0 + P.cellsOf T1 + P.cellsOf T2 + P.cellsOf T3 + P.cellsOf T4 + P.cellsOf T5)).take (P.cellsOf T6))))))) := by
  have : (cs.drop (P.cellsOf T0 + P.cellsOf T1 + P.cellsOf T2 + P.cellsOf T3 + P.cellsOf T4 + P.cellsOf T5)).take (P.cellsOf T6) = cs.drop (P.cellsOf T0 + P.cellsOf T1 + P.cellsOf T2 + P.cellsOf T3 + P.cellsOf T4 + P.cellsOf T5) := List.take_of_length_le (by simp; omega)
  rw [this]
  have e5 := List.take_append_drop (P.cellsOf T5) (cs.drop (P.cellsOf T0 + P.cellsOf T1 + P.cellsOf T2 + P.cellsOf T3 + P.cellsOf T4))
  have e4 := List.take_append_drop (P.cellsOf T4) (cs.drop (P.cellsOf T0 + P.cellsOf T1 + P.cellsOf T2 + P.cellsOf T3))
  have e3 := List.take_append_drop (P.cellsOf T3) (cs.drop (P.cellsOf T0 + P.cellsOf T1 + P.cellsOf T2))
  have e2 := List.take_append_drop (P.cellsOf T2) (cs.drop (P.cellsOf T0 + P.cellsOf T1))
  have e1 := List.take_append_drop (P.cellsOf T1) (cs.drop (P.cellsOf T0))
  rw [List.drop_drop] at e5 e4 e3 e2 e1
  rw [e5, e4, e3, e2, e1, List.drop_zero, List.take_append_drop]
 rw [hcs]
 exact k0.append (k1.append (k2.append (k3.append (k4.append (k5.append (k6))))))
end Go.AM
namespace Go.AM
open Go Go.Proofs Go.ChangeShapes
def rdStr : Rdr Tryz.prog 9 ByteArray := Rdr.str Tryz.underlying9 (by kernel_rfl)
def rdBool : Rdr Tryz.prog 4 Bool := Rdr.bool Tryz.underlying4 (by kernel_rfl)
def Ru.rowD (r : Ru) : List D := [.raw (.string r.name), ints r.lg.nodes, AM.edges r.lg.edges, slots r.lsl, .raw (.int .i64 r.lv), tests r.lte, ints r.rg.nodes, AM.edges r.rg.edges, slots r.rsl, .raw (.int .i64 r.rv), tests r.rte,
 ints r.k.nodes, ints r.k.edges, ints r.i.nodes, ints r.i.edges, .raw (.bool r.inj)] ++ r.c.cells
end Go.AM
namespace Go.AM
open Go Go.Proofs Go.ChangeShapes
def fewNm (s : ByteArray) : Bool := decide (s.size ≤ 40)
def fewAt (a : At) : Bool := if 40 < a.name.size then false else if 25 < a.names.length then false else allP fewNm a.names
def sumOwn (t : Ty) : Nat → Nat
 | 0 => 0
 | i + 1 => sumOwn t i + (t.nd i).own.length
def fewNd (t : Ty) (i : Nat) : Int := if 30 < sumOwn t (i + 1) then 1 else if 40 < (t.nd i).name.size then 1 else if allP fewAt (t.nd i).own = true then 0 else 1
def fewEd (e : ET) : Bool := decide (e.name.size ≤ 40)
def fewT (t : Ty) : Bool := if 20 < t.nodes.length then false else if 30 < t.edges.length then false else if firstE (fewNd t) t.nodes.length ≠ 0 then false else allP fewEd t.edges
structure At.Big (a : At) : Prop where
 n : a.name.size ≤ maxLen
 l : a.names.length ≤ bigN
 s : ∀ x ∈ a.names, x.size ≤ maxLen
structure NT.Big (x : NT) : Prop where
 n : x.name.size ≤ maxLen
 l : x.own.length ≤ bigN
 a : ∀ y ∈ x.own, y.Big
structure Ty.Big (t : Ty) : Prop where
 n : t.nodes.length ≤ bigN
 e : t.edges.length ≤ bigN
 nn : ∀ x ∈ t.nodes, x.Big
 en : ∀ x ∈ t.edges, x.name.size ≤ maxLen
theorem allP_iff {α : Type} {p : α → Bool} {l : List α} : allP p l = true ↔ ∀ x ∈ l, p x = true := by simp [allP]
theorem fewAt_fit {a : At} (h : fewAt a = true) : a.Fit := by
 unfold fewAt at h
 split at h
 ·cases h
 ·split at h
  ·cases h
  ·rw [allP_iff] at h
   exact ⟨by omega, ⟨by omega, fun x hx => by have := h x hx; simp only [fewNm, decide_eq_true_eq] at this; omega⟩⟩
theorem fewNd_zero {t : Ty} {i : Nat} (h : fewNd t i = 0) : sumOwn t (i + 1) ≤ 30 ∧ (t.nd i).name.size ≤ 40 ∧ ∀ x ∈ (t.nd i).own, x.Fit := by
 unfold fewNd at h
 split at h
 ·cases h
 ·split at h
  ·cases h
  ·split at h
   ·rename_i h1 h2 h3
    rw [allP_iff] at h3
    exact ⟨by omega, by omega, fun x hx => fewAt_fit (h3 x hx)⟩
   ·cases h
theorem fewT_fit {t : Ty} (h : fewT t = true) : t.Fit := by
 unfold fewT at h
 split at h
 ·cases h
 ·split at h
  ·cases h
  ·split at h
   ·cases h
   ·rename_i h1 h2 h3
    have hz := firstE_allZ _ (Decidable.not_not.1 h3)
    rw [allP_iff] at h
    have key : ∀ x ∈ t.nodes, ∃ i, i < t.nodes.length ∧ t.nd i = x := fun x hx => by
     obtain ⟨i, hi, he⟩ := List.mem_iff_getElem.1 hx
     exact ⟨i, hi, by rw [nd_at hi, he]⟩
    refine ⟨by omega, by omega, fun x hx => ?_, fun x hx => ?_, fun x hx => ?_⟩
    ·obtain ⟨i, hi, he⟩ := key x hx
     have := (fewNd_zero (hz i hi)).2.1
     rw [he] at this
     omega
    ·have := h x hx
     simp only [fewEd, decide_eq_true_eq] at this
     omega
    ·obtain ⟨i, hi, he⟩ := key x hx
     have h4 := fewNd_zero (hz i hi)
     rw [he] at h4
     refine ⟨?_, h4.2.2⟩
     have := h4.1
     simp only [sumOwn, he] at this
     omega
theorem fewNd_eq {t : Ty} {i : Nat} (h : i < t.nodes.length) : fewNd t i = if 30 < sumOwn t i + t.nodes[i].own.length then 1 else if 40 < t.nodes[i].name.size then 1 else if allP fewAt t.nodes[i].own = true then 0 else 1 := by rw [fewNd, sumOwn, nd_at h]
abbrev fwB (t : Ty) : Nat × List (List AV) := (1, [[.d (nts t.nodes), .d (ets t.edges)]])
def stFw1 (t : Ty) (nb : Nat) (box : Bxs) (tok : Tks) (nt : Nat) (i : Nat) : AState := ⟨tl [(4, I i), (3, I (sumOwn t i)), (1, .ptr (nb + 1) 0 0)], lb nb box [fwB t], tok, nt⟩
def stFw2 (t : Ty) (i n : Nat) (nb : Nat) (box : Bxs) (tok : Tks) (nt : Nat) (k : Nat) : AState := ⟨tl [(5, I k), (4, I i), (3, I n), (1, .ptr (nb + 1) 0 0)], lb nb box [fwB t], tok, nt⟩
def stFw3 (t : Ty) (i n k : Nat) (a : At) (nb : Nat) (box : Bxs) (tok : Tks) (nt : Nat) (j : Nat) : AState := ⟨tl [(7, I j), (6, .ptr (nb + 6) 0 0), (5, I k), (4, I i), (3, I n), (1, .ptr (nb + 1) 0 0)], lb nb box [(6, [a.row]), fwB t], tok, nt⟩
def stFw4 (t : Ty) (nb : Nat) (box : Bxs) (tok : Tks) (nt : Nat) (i : Nat) : AState := ⟨tl [(8, I i), (1, .ptr (nb + 1) 0 0)], lb nb box [fwB t], tok, nt⟩
theorem tyFew_c (t : Ty) (hb : t.Big) (tok : Tks) (nt : Nat) : DCall Tryz.prog 13 [t.av] tok nt (B (fewT t)) tok nt := by
 intro box nb
 have hbn := hb.n
 have hbe := hb.e
 rw [bigN_eq] at hbn hbe
 obtain ⟨N, hN⟩ : ∃ N, fewT t = N := ⟨_, rfl⟩
 rw [hN]
 unfold fewT at hN
 by_cases e1 : 20 < t.nodes.length
 ·have e1' : (20 : Int) < t.nodes.length := by omega
  rw [if_pos e1] at hN
  refine sB Tryz.func13 Tryz.ntmps13 ?_
  intro hbox htok
  simp only at hbox htok
  apply AL.start
  try (simp [e1, e1'])
  repeat (refine sR ?_; simp [e1, e1'])
  refine sC ?_
  simp [e1, e1']
  try (simp)
  repeat (refine sR ?_; simp)
  refine sT ?_
  try simp only [AU]
  refine ⟨by simp, sF hbox htok (fun _ h => h) (Nat.le_refl _) ?_⟩
  simp [packA, ← hN]
 ·have e1' : ¬ (20 : Int) < t.nodes.length := by omega
  rw [if_neg e1] at hN
  by_cases e2 : 30 < t.edges.length
  ·have e2' : (30 : Int) < t.edges.length := by omega
   rw [if_pos e2] at hN
   refine sB Tryz.func13 Tryz.ntmps13 ?_
   intro hbox htok
   simp only at hbox htok
   apply AL.start
   try (simp [e1, e1', e2, e2'])
   repeat (refine sR ?_; simp [e1, e1', e2, e2'])
   refine sC ?_
   simp [e1, e1', e2, e2']
   try (simp)
   repeat (refine sR ?_; simp)
   refine sT ?_
   try simp only [AU]
   refine ⟨by simp, sF hbox htok (fun _ h => h) (Nat.le_refl _) ?_⟩
   simp [packA, ← hN]
  ·have e2' : ¬ (30 : Int) < t.edges.length := by omega
   rw [if_neg e2] at hN
   refine sB Tryz.func13 Tryz.ntmps13 ?_
   intro hbox htok
   simp only at hbox htok
   apply AL.start
   try (simp [e1, e1', e2, e2'])
   repeat (refine sR ?_; simp [e1, e1', e2, e2'])
   refine sC ?_
   simp [e1, e1', e2, e2']
   try (simp)
   repeat (refine sR ?_; simp)
   refine sN ?_
   refine AL.loopT (stFw1 t nb box tok nt) (fun i => i ≤ t.nodes.length ∧ sumOwn t i ≤ 30 ∧ firstE (fewNd t) i = 0) (fun i => t.nodes.length - i) 0 ⟨Nat.zero_le _, Nat.zero_le _, rfl⟩ (Weaks.mk (Nat.le_refl _) rfl (by simp [ToL, lk, lb_at, sumOwn]) (by simp [BoxL, lk])) ?_
   rintro i S' ⟨hi, hsum, hok⟩ hS
   simp only [stFw1] at hS
   subst hS
   have hw := sW (i := i) (by omega)
   try (simp)
   repeat (refine sR ?_; simp)
   refine sC ?_
   simp
   refine ⟨fun hlt => ?_, fun hge => ?_⟩
   ·have hR : fewNd t i ≠ 0 → firstE (fewNd t) t.nodes.length = fewNd t i := fun h0 => firstE_stop hok h0 _ hlt
    have hnx : fewNd t i = 0 → firstE (fewNd t) (i + 1) = 0 := fun h0 => by simp only [firstE, hok, h0, ↓reduceIte]
    have hd := fewNd_eq hlt
    have hsn : sumOwn t (i + 1) = sumOwn t i + t.nodes[i].own.length := by rw [sumOwn, nd_at hlt]
    have hnb := hb.nn _ (List.getElem_mem hlt)
    have hol := hnb.l
    rw [bigN_eq] at hol
    have hws : IntKind.i64.wrap ((sumOwn t i : Nat) + (t.nodes[i].own.length : Nat) : Int) = ((sumOwn t i + t.nodes[i].own.length : Nat) : Int) := by rw [wrap_in (by omega) (by omega)]; rfl
    by_cases c1 : 30 < sumOwn t i + t.nodes[i].own.length
    ·have c1' : (30 : Int) < (sumOwn t i : Int) + (t.nodes[i].own.length : Int) := by omega
     rw [if_pos c1] at hd
     rw [if_pos (by rw [hR (by rw [hd]; decide), hd]; decide)] at hN
     try (simp [hlt, hws, c1, c1'])
     repeat (refine sR ?_; simp [hlt, hws, c1, c1'])
     refine sC ?_
     simp [c1, c1']
     try (simp)
     repeat (refine sR ?_; simp)
     refine sT ?_
     try simp only [AU]
     refine ⟨by simp, sF hbox htok (fun _ h => h) (Nat.le_refl _) ?_⟩
     simp [packA, ← hN]
    ·have c1' : ¬ (30 : Int) < ((sumOwn t i + t.nodes[i].own.length : Nat) : Int) := by omega
     rw [if_neg c1] at hd
     by_cases c2 : 40 < t.nodes[i].name.size
     ·have c2' : (40 : Int) < t.nodes[i].name.size := by omega
      rw [if_pos c2] at hd
      rw [if_pos (by rw [hR (by rw [hd]; decide), hd]; decide)] at hN
      have c1' : ¬ (30 : Int) < (sumOwn t i : Int) + (t.nodes[i].own.length : Int) := by omega
      try (simp [hlt, hws, c1, c1', c2, c2'])
      repeat (refine sR ?_; simp [hlt, hws, c1, c1', c2, c2'])
      refine sC ?_
      simp [c1, c1', c2, c2']
      try (simp)
      repeat (refine sR ?_; simp)
      refine sT ?_
      try simp only [AU]
      refine ⟨by simp, sF hbox htok (fun _ h => h) (Nat.le_refl _) ?_⟩
      simp [packA, ← hN]
     ·have c2' : ¬ (40 : Int) < t.nodes[i].name.size := by omega
      rw [if_neg c2] at hd
      obtain ⟨n, hn⟩ : ∃ n : Nat, sumOwn t i + t.nodes[i].own.length = n := ⟨_, rfl⟩
      rw [hn] at hws c1' c1 hsn
      try (simp [hlt, hws, c1, c1', c2, c2'])
      repeat (refine sR ?_; simp [hlt, hws, c1, c1', c2, c2'])
      refine sC ?_
      simp [c1, c1', c2, c2']
      try (simp)
      repeat (refine sR ?_; simp)
      refine sN ?_
      refine AL.loopT (stFw2 t i n nb box tok nt) (fun k => k ≤ t.nodes[i].own.length ∧ allP fewAt (t.nodes[i].own.take k) = true) (fun k => t.nodes[i].own.length - k) 0 ⟨Nat.zero_le _, rfl⟩ (Weaks.mk (Nat.le_refl _) rfl (by simp [ToL, lk, lb_at]) (by simp [BoxL, lk])) ?_
      rintro k S' ⟨hk, hall⟩ hS
      simp only [stFw2] at hS
      subst hS
      have hwk := sW (i := k) (by omega)
      try (simp [hlt])
      repeat (refine sR ?_; simp [hlt])
      refine sC ?_
      simp
      refine ⟨fun hlk => ?_, fun hgek => ?_⟩
      ·have hno := fun h => all_no (p := fewAt) hlk h
       have hyes := fun h => all_more (p := fewAt) hlk hall h
       have hba := hnb.a _ (List.getElem_mem hlk)
       have hbl := hba.l
       rw [bigN_eq] at hbl
       have hda : fewAt t.nodes[i].own[k] = if 40 < t.nodes[i].own[k].name.size then false else if 25 < t.nodes[i].own[k].names.length then false else allP fewNm t.nodes[i].own[k].names := rfl
       have hbad : fewAt t.nodes[i].own[k] = false → N = false := fun h => by
        rw [hno h, if_neg (by simp)] at hd
        rw [if_pos (by rw [hR (by rw [hd]; decide), hd]; decide)] at hN
        exact hN.symm
       by_cases c3 : 40 < t.nodes[i].own[k].name.size
       ·have c3' : (40 : Int) < t.nodes[i].own[k].name.size := by omega
        rw [if_pos c3] at hda
        try (simp [hlt, hlk, c3, c3'])
        repeat (refine sR ?_; simp [hlt, hlk, c3, c3'])
        refine sC ?_
        simp [c3, c3']
        try (simp)
        repeat (refine sR ?_; simp)
        refine sT ?_
        try simp only [AU]
        refine ⟨by simp, sF hbox htok (fun _ h => h) (Nat.le_refl _) ?_⟩
        simp [packA, hbad hda]
       ·have c3' : ¬ (40 : Int) < t.nodes[i].own[k].name.size := by omega
        rw [if_neg c3] at hda
        by_cases c4 : 25 < t.nodes[i].own[k].names.length
        ·have c4' : (25 : Int) < t.nodes[i].own[k].names.length := by omega
         rw [if_pos c4] at hda
         try (simp [hlt, hlk, c3, c3', c4, c4'])
         repeat (refine sR ?_; simp [hlt, hlk, c3, c3', c4, c4'])
         refine sC ?_
         simp [c3, c3', c4, c4']
         try (simp)
         repeat (refine sR ?_; simp)
         refine sT ?_
         try simp only [AU]
         refine ⟨by simp, sF hbox htok (fun _ h => h) (Nat.le_refl _) ?_⟩
         simp [packA, hbad hda]
        ·have c4' : ¬ (25 : Int) < t.nodes[i].own[k].names.length := by omega
         rw [if_neg c4] at hda
         try (simp [hlt, hlk, c3, c3', c4, c4'])
         repeat (refine sR ?_; simp [hlt, hlk, c3, c3', c4, c4'])
         refine sC ?_
         simp [c3, c3', c4, c4']
         try (simp)
         repeat (refine sR ?_; simp)
         refine sN ?_
         refine AL.loopT (stFw3 t i n k t.nodes[i].own[k] nb box tok nt) (fun j => j ≤ t.nodes[i].own[k].names.length ∧ allP fewNm (t.nodes[i].own[k].names.take j) = true) (fun j => t.nodes[i].own[k].names.length - j) 0 ⟨Nat.zero_le _, rfl⟩ (Weaks.mk (Nat.le_refl _) rfl (by simp [ToL, lk, lb_at]) (by simp [BoxL, lk])) ?_
         rintro j S' ⟨hj, hnall⟩ hS
         simp only [stFw3] at hS
         subst hS
         have hwj := sW (i := j) (by omega)
         try (simp)
         repeat (refine sR ?_; simp)
         refine sC ?_
         simp
         refine ⟨fun hlj => ?_, fun hgej => ?_⟩
         ·have hnon := fun h => all_no (p := fewNm) hlj h
          have hyesn := fun h => all_more (p := fewNm) hlj hnall h
          by_cases c5 : 40 < t.nodes[i].own[k].names[j].size
          ·have c5' : (40 : Int) < t.nodes[i].own[k].names[j].size := by omega
           rw [hnon (by simp only [fewNm, decide_eq_false_iff_not]; omega)] at hda
           try (simp [hlj, c5, c5'])
           repeat (refine sR ?_; simp [hlj, c5, c5'])
           refine sC ?_
           simp [c5, c5']
           try (simp)
           repeat (refine sR ?_; simp)
           refine sT ?_
           try simp only [AU]
           refine ⟨by simp, sF hbox htok (fun _ h => h) (Nat.le_refl _) ?_⟩
           simp [packA, hbad hda]
          ·have c5' : ¬ (40 : Int) < t.nodes[i].own[k].names[j].size := by omega
           try (simp [hlj, c5, c5'])
           repeat (refine sR ?_; simp [hlj, c5, c5'])
           refine sC ?_
           simp [c5, c5']
           try (simp [hwj])
           repeat (refine sR ?_; simp [hwj])
           refine sE ?_
           exact ⟨j + 1, ⟨hlj, hyesn (by simp only [fewNm, decide_eq_true_eq]; omega)⟩, by omega, Weaks.mk (Nat.le_refl _) rfl (by simp [ToL, lk, lb_at]) (by simp [BoxL, lk])⟩
         ·refine sX ?_
          simp only [AU, ↓reduceIte]
          have : j = t.nodes[i].own[k].names.length := by omega
          subst this
          rw [List.take_length] at hnall
          rw [hnall] at hda
          try (simp [hwk])
          repeat (refine sR ?_; simp [hwk])
          refine sE ?_
          exact ⟨k + 1, ⟨hlk, hyes hda⟩, by omega, Weaks.mk (Nat.le_refl _) rfl (by simp [ToL, lk, lb_at]) (by simp [BoxL, lk])⟩
      ·refine sX ?_
       simp only [AU, ↓reduceIte]
       have : k = t.nodes[i].own.length := by omega
       subst this
       rw [List.take_length] at hall
       rw [if_pos hall] at hd
       try (simp [hw])
       repeat (refine sR ?_; simp [hw])
       refine sE ?_
       exact ⟨i + 1, ⟨hlt, by omega, hnx hd⟩, by omega, Weaks.mk (Nat.le_refl _) rfl (by simp [ToL, lk, lb_at, hsn]) (by simp [BoxL, lk])⟩
   ·refine sX ?_
    simp only [AU, ↓reduceIte]
    have : i = t.nodes.length := by omega
    subst this
    rw [if_neg (by simp [hok])] at hN
    try (simp)
    repeat (refine sR ?_; simp)
    refine sN ?_
    refine AL.loopT (stFw4 t nb box tok nt) (fun i => i ≤ t.edges.length ∧ allP fewEd (t.edges.take i) = true) (fun i => t.edges.length - i) 0 ⟨Nat.zero_le _, rfl⟩ (Weaks.mk (Nat.le_refl _) rfl (by simp [ToL, lk, lb_at]) (by simp [BoxL, lk])) ?_
    rintro i S' ⟨hi, hall⟩ hS
    simp only [stFw4] at hS
    subst hS
    have hw := sW (i := i) (by omega)
    try (simp)
    repeat (refine sR ?_; simp)
    refine sC ?_
    simp
    refine ⟨fun hlt => ?_, fun hge => ?_⟩
    ·have hno := fun h => all_no (p := fewEd) hlt h
     have hyes := fun h => all_more (p := fewEd) hlt hall h
     by_cases c5 : 40 < t.edges[i].name.size
     ·have c5' : (40 : Int) < t.edges[i].name.size := by omega
      rw [hno (by simp only [fewEd, decide_eq_false_iff_not]; omega)] at hN
      try (simp [hlt, c5, c5'])
      repeat (refine sR ?_; simp [hlt, c5, c5'])
      refine sC ?_
      simp [c5, c5']
      try (simp)
      repeat (refine sR ?_; simp)
      refine sT ?_
      try simp only [AU]
      refine ⟨by simp, sF hbox htok (fun _ h => h) (Nat.le_refl _) ?_⟩
      simp [packA, ← hN]
     ·have c5' : ¬ (40 : Int) < t.edges[i].name.size := by omega
      try (simp [hlt, c5, c5'])
      repeat (refine sR ?_; simp [hlt, c5, c5'])
      refine sC ?_
      simp [c5, c5']
      try (simp [hw])
      repeat (refine sR ?_; simp [hw])
      refine sE ?_
      exact ⟨i + 1, ⟨hlt, hyes (by simp only [fewEd, decide_eq_true_eq]; omega)⟩, by omega, Weaks.mk (Nat.le_refl _) rfl (by simp [ToL, lk, lb_at]) (by simp [BoxL, lk])⟩
    ·refine sX ?_
     simp only [AU, ↓reduceIte]
     have : i = t.edges.length := by omega
     subst this
     rw [List.take_length] at hall
     rw [hall] at hN
     try (simp)
     repeat (refine sR ?_; simp)
     refine sT ?_
     try simp only [AU]
     refine ⟨by simp, sF hbox htok (fun _ h => h) (Nat.le_refl _) ?_⟩
     simp [packA, ← hN]
end Go.AM
namespace Go.AM
open Go Go.Proofs Go.ChangeShapes
structure Xt.Big (x : Xt) : Prop where
 mn : x.m.nodes.length ≤ bigN
 me : x.m.edges.length ≤ bigN
 g : x.g.Big
structure Co.Big (c : Co) : Prop where
 name : c.name.size ≤ maxLen
 g : c.g.Big
 n : c.exts.length ≤ bigN
 exts : ∀ x ∈ c.exts, x.Big
theorem by_xt : Tryz.prog.bytesOf 146 = 96 := by kernel_rfl
def rdXt0 : Rdr Tryz.prog 146 ((List Int × List Int) × Gr) := Rdr.struct2 rdMorph0 rdGraphB Tryz.underlying146 rfl rfl rfl (by kernel_rfl) (by kernel_rfl)
def rdXt : Rdr Tryz.prog 146 Xt := rdXt0.map (fun x => ⟨⟨x.1.1, x.1.2⟩, x.2⟩) Xt.cells Xt.Big (fun _ => rfl) (fun x h => ⟨rdInts_ok h.1.1, rdInts_ok h.1.2, h.2⟩) (fun _ => by kernel_rfl)
def rdXts : Rdr Tryz.prog 30 (List Xt) := rdXt.sliceN 4 Tryz.underlying30 (by kernel_rfl) (by kernel_rfl)
theorem rdXts_ok {l : List Xt} (h : rdXts.ok l) : l.length ≤ bigN ∧ ∀ x ∈ l, x.Big := by
 have h2 : l.length * Tryz.prog.bytesOf 146 ≤ reachBytes := h.2
 rw [by_xt] at h2
 have : reachBytes = 140737488351232 := rfl
 exact ⟨by rw [bigN_eq]; omega, h.1⟩
abbrev CoT := ByteArray × Int × Gr × List Xt
theorem rdCo_n (n : Nat) : RdF Tryz.prog 32 (fun x : CoT => rdStr.enc x.1 ++ (rdInt.enc x.2.1 ++ (rdGraphB.enc x.2.2.1 ++ rdXts.enc x.2.2.2))) (fun x => rdStr.ok x.1 ∧ rdInt.ok x.2.1 ∧ rdGraphB.ok x.2.2.1 ∧ rdXts.ok x.2.2.2) n := by
 cases n with
 | zero => exact .zero
 | succ n => exact RdF.struct4 (rdStr.f n) (rdInt.f n) (rdGraphB.f n) (rdXts.f n) Tryz.underlying32 rfl rfl rfl rfl rfl (by kernel_rfl) (by kernel_rfl) (by kernel_rfl) (by kernel_rfl)
def rdCo0 : Rdr Tryz.prog 32 CoT := Rdr.ofF _ _ (fun x => by simp [rdStr.len, rdInt.len, rdGraphB.len, rdXts.len]; kernel_rfl) rdCo_n
def Co.rowD (c : Co) : List D := [.raw (.string c.name), .raw (.int .i64 c.kind), ints c.g.nodes, AM.edges c.g.edges, xts c.exts]
def rdCo : Rdr Tryz.prog 32 Co := rdCo0.map (fun x => ⟨x.1, x.2.1, x.2.2.1, x.2.2.2⟩) Co.rowD Co.Big (fun _ => rfl) (fun x h => ⟨h.1, h.2.2.1, (rdXts_ok h.2.2.2).1, (rdXts_ok h.2.2.2).2⟩) (fun _ => by kernel_rfl)
set_option maxRecDepth 100000 in
theorem arg_constraint {ps : Array TypeId} {args : Array Value} {W : World} {base base' : Nat} {sp : Nat → Bool} {held : Bool} {H : Type} {enc : TypeId × Value → H} (hval : ∀ (j : Nat) t v, ps[j]? = some t → args[j]? = some v → Value.okWide Tryz.prog W .any base t v)
  (j : Nat) (v : Value) (hp : ps[j]? = some 32) (ha : args[j]? = some v) {d : DataW H} {p : List MemPlace} (h : DataW.Trod enc Tryz.prog W base' sp held 32 v d p) (hli : Light Tryz.prog 32 d) : ∃ c : Co, c.Big ∧ RV G0 W c.av v := by
 refine Exists.elim (arg_agg hval j 32 v hp ha rdCo aggT_32 h hli) fun c hc => ⟨c, hc.1, ?_⟩
 have h2 : RV G0 W (.agg (c.rowD.map .d)) v := hc.2
 exact h2
end Go.AM
namespace Go.AM
open Go Go.Proofs
def fewX (x : Xt) : Bool := if fewG x.g = true then fewM x.m 140 else false
def fewC (c : Co) : Bool := if 60 < c.name.size then false else if 10 < c.exts.length then false else if fewG c.g = true then allP fewX c.exts else false
theorem allP_mem {α : Type} {p : α → Bool} {l : List α} (h : allP p l = true) : ∀ x ∈ l, p x = true := List.all_eq_true.1 h
theorem fewC_fit {c : Co} (h : fewC c = true) : c.Fit ∧ c.exts.length ≤ 10 := by
 unfold fewC at h
 split at h
 ·cases h
 rename_i h1
 split at h
 ·cases h
 rename_i h2
 split at h
 ·rename_i h3
  refine ⟨⟨by omega, fewG_fit h3, by omega, fun x hx => ?_⟩, by omega⟩
  have := allP_mem h x hx
  unfold fewX at this
  split at this
  ·rename_i h4; exact ⟨fewM_fit2 this, fewG_fit h4⟩
  ·cases this
 ·cases h
def stFc (c : Co) (nb : Nat) (box : Bxs) (tok : Tks) (nt : Nat) (i : Nat) : AState :=
 ⟨tl [(3, I i), (1, .ptr (nb + 1) 0 0)], lb nb box [(1, [c.row])], tok, nt⟩
theorem few42_c (c : Co) (hc : c.Big) (tok : Tks) (nt : Nat) : DCall Tryz.prog 14 [c.av] tok nt (B (fewC c)) tok nt := by
 intro box nb
 have hn := hc.n
 rw [bigN_eq] at hn
 have hnm := hc.name
 have h1 := few05_c c.g
 obtain ⟨N, hN⟩ : ∃ N, fewC c = N := ⟨_, rfl⟩
 rw [hN]
 unfold fewC at hN
 by_cases e1 : 60 < c.name.size
 ·have e1' : (60 : Int) < c.name.size := by omega
  rw [if_pos e1] at hN
  refine sB Tryz.func14 Tryz.ntmps14 ?_
  intro hbox htok
  simp only at hbox htok
  apply AL.start
  try (simp [e1, e1'])
  repeat (first | (refine sR ?_; simp [e1, e1']) | (refine sC ?_; simp [e1, e1']) | (refine sX ?_; simp only [AU, ↓reduceIte]))
  refine sT ?_
  try simp only [AU]
  refine ⟨by simp, sF hbox htok (fun _ h => h) (Nat.le_refl _) ?_⟩
  simp [packA, ← hN]
 ·have e1' : ¬ (60 : Int) < c.name.size := by omega
  rw [if_neg e1] at hN
  by_cases e2 : 10 < c.exts.length
  ·have e2' : (10 : Int) < c.exts.length := by omega
   rw [if_pos e2] at hN
   refine sB Tryz.func14 Tryz.ntmps14 ?_
   intro hbox htok
   simp only at hbox htok
   apply AL.start
   try (simp [e1, e1', e2, e2'])
   repeat (first | (refine sR ?_; simp [e1, e1', e2, e2']) | (refine sC ?_; simp [e1, e1', e2, e2']) | (refine sX ?_; simp only [AU, ↓reduceIte]))
   refine sT ?_
   try simp only [AU]
   refine ⟨by simp, sF hbox htok (fun _ h => h) (Nat.le_refl _) ?_⟩
   simp [packA, ← hN]
  ·have e2' : ¬ (10 : Int) < c.exts.length := by omega
   rw [if_neg e2] at hN
   refine sB Tryz.func14 Tryz.ntmps14 ?_
   intro hbox htok
   simp only at hbox htok
   apply AL.start
   try (simp [e1, e1', e2, e2'])
   repeat (first | (refine sR ?_; simp [e1, e1', e2, e2']) | (refine sC ?_; simp [e1, e1', e2, e2']) | (refine sX ?_; simp only [AU, ↓reduceIte]))
   refine Stop.of_d (h1 _ _) ?_
   simp
   cases e3 : fewG c.g
   ·rw [e3, if_neg (by simp)] at hN
    try (simp)
    repeat (first | (refine sR ?_; simp) | (refine sC ?_; simp) | (refine sX ?_; simp only [AU, ↓reduceIte]))
    refine sT ?_
    try simp only [AU]
    refine ⟨by simp, sF hbox htok (fun _ h => h) (Nat.le_refl _) ?_⟩
    simp [packA, ← hN]
   ·rw [e3, if_pos rfl] at hN
    try (simp)
    repeat (first | (refine sR ?_; simp) | (refine sC ?_; simp) | (refine sX ?_; simp only [AU, ↓reduceIte]))
    refine sN ?_
    refine AL.loopT (stFc c nb box tok nt) (fun i => i ≤ c.exts.length ∧ allP fewX (c.exts.take i) = true) (fun i => c.exts.length - i) 0 ⟨Nat.zero_le _, by simp [allP]⟩ (Weaks.mk (Nat.le_refl _) rfl (by simp [ToL, lk, lb_at]) (by simp [BoxL, lk])) ?_
    rintro i S' ⟨hi, hok⟩ hS
    simp only [stFc] at hS
    subst hS
    have hw := sW (i := i) (by omega)
    try (simp)
    repeat (refine sR ?_; simp)
    refine sC ?_
    simp
    refine ⟨fun hlt => ?_, fun hge => ?_⟩
    ·have hno := fun h => all_no (p := fewX) hlt h
     have hyes := fun h => all_more (p := fewX) hlt hok h
     have hb := hc.exts _ (List.getElem_mem hlt)
     have b1 := hb.mn
     have b2 := hb.me
     rw [bigN_eq] at b1 b2
     have c1 := few05_c c.exts[i].g
     have c2 := few06_c c.exts[i].m 140 (by omega) (by omega)
     have hd : fewX c.exts[i] = if fewG c.exts[i].g = true then fewM c.exts[i].m 140 else false := rfl
     try (simp [hlt])
     repeat (refine sR ?_; simp [hlt])
     refine Stop.of_d (c1 _ _) ?_
     simp
     cases e4 : fewG c.exts[i].g
     ·rw [e4, if_neg (by simp)] at hd
      rw [hno hd] at hN
      try (simp)
      repeat (first | (refine sR ?_; simp) | (refine sC ?_; simp) | (refine sX ?_; simp only [AU, ↓reduceIte]))
      refine sT ?_
      try simp only [AU]
      refine ⟨by simp, sF hbox htok (fun _ h => h) (Nat.le_refl _) ?_⟩
      simp [packA, ← hN]
     ·rw [e4, if_pos rfl] at hd
      try (simp [hlt])
      repeat (first | (refine sR ?_; simp [hlt]) | (refine sC ?_; simp [hlt]) | (refine sX ?_; simp only [AU, ↓reduceIte]))
      refine Stop.of_d (c2 _ _) ?_
      simp
      cases e5 : fewM c.exts[i].m 140
      ·rw [e5] at hd
       rw [hno hd] at hN
       try (simp)
       repeat (first | (refine sR ?_; simp) | (refine sC ?_; simp) | (refine sX ?_; simp only [AU, ↓reduceIte]))
       refine sT ?_
       try simp only [AU]
       refine ⟨by simp, sF hbox htok (fun _ h => h) (Nat.le_refl _) ?_⟩
       simp [packA, ← hN]
      ·rw [e5] at hd
       try (simp [hw])
       repeat (first | (refine sR ?_; simp [hw]) | (refine sC ?_; simp [hw]) | (refine sX ?_; simp only [AU, ↓reduceIte]))
       refine sE ?_
       exact ⟨i + 1, ⟨hlt, hyes hd⟩, by omega, Weaks.mk (Nat.le_refl _) rfl (by simp [ToL, lk, lb_at]) (by simp [BoxL, lk])⟩
    ·refine sX ?_
     simp only [AU, ↓reduceIte]
     have : i = c.exts.length := by omega
     subst this
     rw [List.take_length] at hok
     rw [hok] at hN
     try (simp)
     repeat (refine sR ?_; simp)
     refine sT ?_
     try simp only [AU]
     refine ⟨by simp, sF hbox htok (fun _ h => h) (Nat.le_refl _) ?_⟩
     simp [packA, ← hN]
end Go.AM
namespace Go.AM
open Go Go.Proofs
theorem xC_bare {m : Mo} {g : Gr} {k : Cd} (h : k.Bare) : (xC m g k).Bare := .mk rfl rfl fun x hx => by
 have : x = k := by simpa [xC, Cd.kids] using hx
 subst this
 exact h
theorem condR_bare (c : Co) : (condR c).1.Bare := by
 unfold condR
 split
 ·exact (nil_fb 0).2
 ·unfold cndC
  refine bare_cdOf fun x hx => ?_
  rw [List.mem_singleton.1 hx]
  refine xC_bare ?_
  split
  ·exact (nil_fb _).2
  ·refine bare_cdOf fun y hy => ?_
   rw [List.mem_singleton.1 hy]
   refine bare_cdOf fun z hz => ?_
   obtain ⟨w, _, rfl⟩ := List.mem_map.1 hz
   exact xC_bare (nil_fb _).2
set_option maxRecDepth 100000 in
theorem lawCValid_c (t : Ty) (c : Co) (hb : t.Big) (hc : c.Big) (tok : Tks) (nt : Nat) : DCall Tryz.prog 3 [t.av, c.av] tok nt (B true) tok nt := by
 intro box nb
 have hw := awake42_c
 have h1 := tyFew_c t hb
 have h2 := few42_c c hc
 refine sB Tryz.func3 Tryz.ntmps3 ?_
 intro hbox htok
 simp only at hbox htok
 apply AL.start
 try (simp)
 repeat (refine sR ?_; simp)
 refine Stop.of_d (hw _ _) ?_
 simp
 try (simp)
 repeat (refine sR ?_; simp)
 refine Stop.of_d (h1 _ _) ?_
 simp
 cases e1 : fewT t
 ·try (simp)
  repeat (first | (refine sR ?_; simp) | (refine sC ?_; simp) | (refine sX ?_; simp only [AU, ↓reduceIte]))
  refine Stop.of_d (hw _ _) ?_
  simp
  try (simp)
  repeat (first | (refine sR ?_; simp) | (refine sC ?_; simp) | (refine sX ?_; simp only [AU, ↓reduceIte]))
  refine sT ?_
  try simp only [AU]
  refine ⟨by simp, sF hbox htok (fun _ h => h) (Nat.le_refl _) ?_⟩
  simp [packA]
 ·try (simp)
  repeat (first | (refine sR ?_; simp) | (refine sC ?_; simp) | (refine sX ?_; simp only [AU, ↓reduceIte]))
  refine Stop.of_d (h2 _ _) ?_
  simp
  cases e2 : fewC c
  ·try (simp)
   repeat (first | (refine sR ?_; simp) | (refine sC ?_; simp) | (refine sX ?_; simp only [AU, ↓reduceIte]))
   refine Stop.of_d (hw _ _) ?_
   simp
   try (simp)
   repeat (first | (refine sR ?_; simp) | (refine sC ?_; simp) | (refine sX ?_; simp only [AU, ↓reduceIte]))
   refine sT ?_
   try simp only [AU]
   refine ⟨by simp, sF hbox htok (fun _ h => h) (Nat.le_refl _) ?_⟩
   simp [packA]
  ·have ft := fewT_fit e1
   obtain ⟨fc, _⟩ := fewC_fit e2
   have f1 := condK_c c fc
   have f2 := condS_c c fc
   have f3 := validK_c t ft c fc
   have f4 := validS_c t ft c fc
   have f5 := same33_c _ (condR c).1 (Nat.lt_succ_self _) (condR_fit fc) (condR_bare c)
   generalize condR c = L at *
   generalize cnE t c = V at *
   try (simp)
   repeat (first | (refine sR ?_; simp) | (refine sC ?_; simp) | (refine sX ?_; simp only [AU, ↓reduceIte]))
   refine Stop.of_d (f1 _ _) ?_
   simp
   try (simp)
   repeat (first | (refine sR ?_; simp) | (refine sC ?_; simp) | (refine sX ?_; simp only [AU, ↓reduceIte]))
   refine Stop.of_d (f2 _ _) ?_
   simp
   try (simp)
   repeat (first | (refine sR ?_; simp) | (refine sC ?_; simp) | (refine sX ?_; simp only [AU, ↓reduceIte]))
   refine Stop.of_d (f3 _ _) ?_
   simp
   try (simp)
   repeat (first | (refine sR ?_; simp) | (refine sC ?_; simp) | (refine sX ?_; simp only [AU, ↓reduceIte]))
   refine Stop.of_d (f4 _ _) ?_
   simp
   try (simp)
   repeat (first | (refine sR ?_; simp) | (refine sC ?_; simp) | (refine sX ?_; simp only [AU, ↓reduceIte]))
   refine Stop.of_d (f5 _ _) ?_
   simp
   try (simp)
   repeat (first | (refine sR ?_; simp) | (refine sC ?_; simp) | (refine sX ?_; simp only [AU, ↓reduceIte]))
   refine sT ?_
   try simp only [AU]
   refine ⟨by simp, sF hbox htok (fun _ h => h) (Nat.le_refl _) ?_⟩
   simp [packA]
end Go.AM
namespace Go.AM
open Go Go.Proofs Go.ChangeShapes
def rdStrs : Rdr Tryz.prog 130 (List ByteArray) := rdStr.sliceN 1 Tryz.underlying130 (by kernel_rfl) (by kernel_rfl)
abbrev AtT := ByteArray × Int × Int × List ByteArray
theorem rdAt_n (n : Nat) : RdF Tryz.prog 141 (fun x : AtT => rdStr.enc x.1 ++ (rdInt.enc x.2.1 ++ (rdInt.enc x.2.2.1 ++ rdStrs.enc x.2.2.2))) (fun x => rdStr.ok x.1 ∧ rdInt.ok x.2.1 ∧ rdInt.ok x.2.2.1 ∧ rdStrs.ok x.2.2.2) n := by
 cases n with
 | zero => exact .zero
 | succ n => exact RdF.struct4 (rdStr.f n) (rdInt.f n) (rdInt.f n) (rdStrs.f n) Tryz.underlying141 rfl rfl rfl rfl rfl (by kernel_rfl) (by kernel_rfl) (by kernel_rfl) (by kernel_rfl)
def rdAt0 : Rdr Tryz.prog 141 AtT := Rdr.ofF _ _ (fun x => by simp [rdStr.len, rdInt.len, rdStrs.len]; kernel_rfl) rdAt_n
theorem by_string : Tryz.prog.bytesOf 9 = 16 := by kernel_rfl
theorem by_attr : Tryz.prog.bytesOf 141 = 56 := by kernel_rfl
theorem by_node : Tryz.prog.bytesOf 106 = 56 := by kernel_rfl
theorem by_etype : Tryz.prog.bytesOf 143 = 64 := by kernel_rfl
theorem rdStrs_ok {l : List ByteArray} (h : rdStrs.ok l) : l.length ≤ bigN ∧ ∀ x ∈ l, x.size ≤ maxLen := by
 have h2 : l.length * Tryz.prog.bytesOf 9 ≤ reachBytes := h.2
 rw [by_string] at h2
 have : reachBytes = 140737488351232 := rfl
 exact ⟨by rw [bigN_eq]; omega, fun x hx => h.1 x hx⟩
def rdAt : Rdr Tryz.prog 141 At := rdAt0.map (fun x => ⟨x.1, x.2.1, x.2.2.1, x.2.2.2⟩) At.cells At.Big (fun _ => rfl) (fun x h => ⟨h.1, (rdStrs_ok h.2.2.2).1, (rdStrs_ok h.2.2.2).2⟩) (fun _ => by kernel_rfl)
def rdAts : Rdr Tryz.prog 104 (List At) := rdAt.sliceN 4 Tryz.underlying104 (by kernel_rfl) (by kernel_rfl)
abbrev NtT := ByteArray × Int × Bool × List At
theorem rdNt_n (n : Nat) : RdF Tryz.prog 106 (fun x : NtT => rdStr.enc x.1 ++ (rdInt.enc x.2.1 ++ (rdBool.enc x.2.2.1 ++ rdAts.enc x.2.2.2))) (fun x => rdStr.ok x.1 ∧ rdInt.ok x.2.1 ∧ rdBool.ok x.2.2.1 ∧ rdAts.ok x.2.2.2) n := by
 cases n with
 | zero => exact .zero
 | succ n => exact RdF.struct4 (rdStr.f n) (rdInt.f n) (rdBool.f n) (rdAts.f n) Tryz.underlying106 rfl rfl rfl rfl rfl (by kernel_rfl) (by kernel_rfl) (by kernel_rfl) (by kernel_rfl)
def rdNt0 : Rdr Tryz.prog 106 NtT := Rdr.ofF _ _ (fun x => by simp [rdStr.len, rdInt.len, rdBool.len, rdAts.len]; kernel_rfl) rdNt_n
theorem rdAts_ok {l : List At} (h : rdAts.ok l) : l.length ≤ bigN ∧ ∀ x ∈ l, x.Big := by
 have h2 : l.length * Tryz.prog.bytesOf 141 ≤ reachBytes := h.2
 rw [by_attr] at h2
 have : reachBytes = 140737488351232 := rfl
 exact ⟨by rw [bigN_eq]; omega, fun x hx => h.1 x hx⟩
def rdNt : Rdr Tryz.prog 106 NT := rdNt0.map (fun x => ⟨x.1, x.2.1, x.2.2.1, x.2.2.2⟩) NT.cells NT.Big (fun _ => rfl) (fun x h => ⟨h.1, (rdAts_ok h.2.2.2).1, (rdAts_ok h.2.2.2).2⟩) (fun _ => by kernel_rfl)
def rdNts : Rdr Tryz.prog 22 (List NT) := rdNt.sliceN 4 Tryz.underlying22 (by kernel_rfl) (by kernel_rfl)
abbrev EtT := ByteArray × Int × Int × Int × Int × Int × Int
theorem rdEt_n (n : Nat) : RdF Tryz.prog 143 (fun x : EtT => rdStr.enc x.1 ++ (rdInt.enc x.2.1 ++ (rdInt.enc x.2.2.1 ++ (rdInt.enc x.2.2.2.1 ++ (rdInt.enc x.2.2.2.2.1 ++ (rdInt.enc x.2.2.2.2.2.1 ++ rdInt.enc x.2.2.2.2.2.2)))))) (fun x => rdStr.ok x.1 ∧ rdInt.ok x.2.1 ∧ rdInt.ok x.2.2.1 ∧ rdInt.ok x.2.2.2.1 ∧ rdInt.ok x.2.2.2.2.1 ∧ rdInt.ok x.2.2.2.2.2.1 ∧ rdInt.ok x.2.2.2.2.2.2) n := by
 cases n with
 | zero => exact .zero
 | succ n => exact RdF.struct7 (rdStr.f n) (rdInt.f n) (rdInt.f n) (rdInt.f n) (rdInt.f n) (rdInt.f n) (rdInt.f n) Tryz.underlying143 rfl rfl rfl rfl rfl rfl rfl rfl (by kernel_rfl) (by kernel_rfl) (by kernel_rfl) (by kernel_rfl) (by kernel_rfl) (by kernel_rfl) (by kernel_rfl)
def rdEt0 : Rdr Tryz.prog 143 EtT := Rdr.ofF _ _ (fun x => by simp [rdStr.len, rdInt.len]; kernel_rfl) rdEt_n
def rdEt : Rdr Tryz.prog 143 ET := rdEt0.map (fun x => ⟨x.1, x.2.1, x.2.2.1, x.2.2.2.1, x.2.2.2.2.1, x.2.2.2.2.2.1, x.2.2.2.2.2.2⟩) ET.cells (fun e => e.name.size ≤ maxLen) (fun _ => rfl) (fun x h => h.1) (fun _ => by kernel_rfl)
def rdEts : Rdr Tryz.prog 23 (List ET) := rdEt.sliceN 7 Tryz.underlying23 (by kernel_rfl) (by kernel_rfl)
def rdTy0 : Rdr Tryz.prog 25 (List NT × List ET) := Rdr.struct2 rdNts rdEts Tryz.underlying25 rfl rfl rfl (by kernel_rfl) (by kernel_rfl)
theorem rdTy_ok {l : List NT} {m : List ET} (h : rdNts.ok l) (k : rdEts.ok m) : (Ty.mk l m).Big := by
 have h2 : l.length * Tryz.prog.bytesOf 106 ≤ reachBytes := h.2
 have k2 : m.length * Tryz.prog.bytesOf 143 ≤ reachBytes := k.2
 rw [by_node] at h2
 rw [by_etype] at k2
 have : reachBytes = 140737488351232 := rfl
 exact ⟨by rw [bigN_eq]; simp only; omega, by rw [bigN_eq]; simp only; omega, fun x hx => h.1 x hx, fun x hx => k.1 x hx⟩
def rdTy : Rdr Tryz.prog 25 Ty := rdTy0.map (fun x => ⟨x.1, x.2⟩) (fun x => [nts x.nodes, ets x.edges]) Ty.Big (fun _ => rfl) (fun x h => rdTy_ok h.1 h.2) (fun _ => by kernel_rfl)
set_option maxRecDepth 100000 in
theorem arg_types {ps : Array TypeId} {args : Array Value} {W : World} {base base' : Nat} {sp : Nat → Bool} {held : Bool} {H : Type} {enc : TypeId × Value → H} (hval : ∀ (j : Nat) t v, ps[j]? = some t → args[j]? = some v → Value.okWide Tryz.prog W .any base t v)
  (j : Nat) (v : Value) (hp : ps[j]? = some 25) (ha : args[j]? = some v) {d : DataW H} {p : List MemPlace} (h : DataW.Trod enc Tryz.prog W base' sp held 25 v d p) (hli : Light Tryz.prog 25 d) : ∃ x : Ty, x.Big ∧ RV G0 W x.av v :=
 Exists.elim (arg_agg hval j 25 v hp ha rdTy aggT_25 h hli) fun x hx => ⟨x, hx.1, hx.2⟩
end Go.AM
namespace Go.AM
end Go.AM
