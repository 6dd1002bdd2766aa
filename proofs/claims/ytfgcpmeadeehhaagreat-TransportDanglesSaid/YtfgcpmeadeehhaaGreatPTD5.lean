/-
 Parts of the proof, as merged from many texts: a machine over data, what the functions compute, plain laws.
-/
import Derived.Test.YtfgcpmeadeehhaaGreatPTD4
import Derived.Shelf.Sort.Plain
import Derived.Ground.Names2Prog
import Derived.Shelf.Slices.Clone
import Derived.Shelf.Slices.CompactI
import Derived.Shelf.Slices.In.SortNone
import Derived.Test.YtfgcpmeadeehhaaGreatProg
import Derived.Test.YtfgcpmeadeehhaaGreatChecked
import Derived.WalkKit
import Derived.Deep.LoopGhost
import Derived.Sort.OwnSortedInts
import Derived.Lib.OwnBridge
set_option linter.unusedSimpArgs false
set_option linter.unusedVariables false
namespace Go.AM
open Go
def nextsG (g : Nat → Int → Bool) (l : List Int) : List (List Int) := ((List.range (l.length + 1)).filter fun x => decide (x = l.length ∨ (l.getD x 0 = x ∧ g l.length x = true))).map fun (x : Nat) => l ++ [(x : Int)]
def reachG (g : Nat → Int → Bool) : Nat → List Int → List (List Int)
 | 0, l => [l]
 | n + 1, l => (reachG g n l).flatMap (nextsG g)
theorem alikeB_snoc (g : Nat → Int → Bool) (l : List Int) (x : Int) : alikeB g (l ++ [x]) = (alikeB g l && g l.length x) := by
 unfold alikeB
 simp only [List.length_append, List.length_cons, List.length_nil, Nat.zero_add]
 rw [alikeK_succ]
 congr 1
 ·unfold alikeK
  rw [Bool.eq_iff_iff, List.all_eq_true, List.all_eq_true]
  constructor <;> intro h j hj <;> have := h j hj <;> have hj' : j < l.length := by simpa using hj
  ·rw [List.getD_eq_getElem?_getD, List.getElem?_append_left hj', ← List.getD_eq_getElem?_getD] at this
   exact this
  ·rw [List.getD_eq_getElem?_getD, List.getElem?_append_left hj', ← List.getD_eq_getElem?_getD]
   exact this
 ·simp
theorem reach_filter (g : Nat → Int → Bool) (hg : ∀ i : Nat, g i i = true) : ∀ n, reachG g n [] = (partsN n).filter (alikeB g)
 | 0 => by simp [reachG, partsN, alikeB, alikeK]
 | n + 1 => by
  rw [reachG, reach_filter g hg n, partsN, List.filter_flatMap]
  have key : ∀ L : List (List Int), (∀ l ∈ L, l.length = n) → (L.filter (alikeB g)).flatMap (nextsG g) = L.flatMap fun l => (nextsK l (n + 1)).filter (alikeB g) := by
   intro L
   induction L with
   | nil => intro _; rfl
   | cons l L ih =>
    intro hL
    have hl := hL l (by simp)
    have hone : (nextsK l (n + 1)).filter (alikeB g) = if alikeB g l = true then nextsG g l else [] := by
     unfold nextsK nextsG
     rw [List.filter_map, List.filter_filter, hl]
     by_cases ha : alikeB g l = true
     ·rw [if_pos ha]
      congr 1
      apply List.filter_congr
      intro x hx
      simp only [Function.comp, alikeB_snoc, ha, Bool.true_and, hl]
      rw [Bool.eq_iff_iff]
      simp only [Bool.and_eq_true, Bool.or_eq_true, decide_eq_true_eq]
      constructor
      ·rintro ⟨h1, h2 | h2⟩
       ·exact .inl h2
       ·exact .inr ⟨h2, h1⟩
      ·rintro (h1 | ⟨h1, h2⟩)
       ·subst h1; exact ⟨hg _, .inl rfl⟩
       ·exact ⟨h2, .inr h1⟩
     ·rw [if_neg ha]
      have : ((List.range (n + 1)).filter fun a => ((alikeB g) ∘ fun (x : Nat) => l ++ [(x : Int)]) a && (decide (a = n) || decide (l.getD a 0 = ↑a))) = [] := by
       rw [List.filter_eq_nil_iff]
       intro x hx
       simp only [Function.comp, alikeB_snoc]
       simp [ha]
      rw [this]
      rfl
    rw [List.flatMap_cons, hone]
    by_cases ha : alikeB g l = true
    ·rw [List.filter_cons_of_pos ha, List.flatMap_cons, if_pos ha, ih fun l hl => hL l (by simp [hl])]
    ·rw [List.filter_cons_of_neg ha, if_neg ha, ih fun l hl => hL l (by simp [hl])]
     rfl
  exact key _ (partsN_len n)
section
variable {α : Type}
def repG (f : Nat → α) (l : List Int) : Nat → List α
 | 0 => []
 | i + 1 => if l.getD i 0 = i then repG f l i ++ [f i] else repG f l i
end
theorem repN_eq (an l : List Int) : ∀ i, repN an l i = repG (fun j => an.getD j 0) l i
 | 0 => rfl
 | i + 1 => by rw [repN, repG, repN_eq an l i]
def edgeAt (ae : List E) (p : List Int) (j : Nat) : E := ⟨(ae.getD j default).ty, p.getD (ae.getD j default).fr.toNat 0, p.getD (ae.getD j default).to.toNat 0⟩
theorem repE_eq (ae : List E) (p l : List Int) : ∀ i, repE ae p l i = repG (edgeAt ae p) l i
 | 0 => rfl
 | i + 1 => by rw [repE, repG, repE_eq ae p l i]; rfl
end Go.AM
namespace Go.AM
open Go Go.Proofs
end Go.AM
namespace Go.AM
open Go Go.Proofs
theorem Sub.agg {xs ys : List AV} (h : SubL xs ys) : Sub (.agg xs) (.agg ys) := fun G w v r => by
 cases r with
 | agg hl hh h1 => have := h.rvs ⟨hl, hh⟩; exact .agg this.1 this.2 h1
end Go.AM
namespace Go.AM
open Go Go.Proofs
end Go.AM
namespace Go.AM
open Go Go.Proofs
def firstE (f : Nat → Int) : Nat → Int
 | 0 => 0
 | n + 1 => if firstE f n = 0 then f n else firstE f n
theorem firstE_stop {f : Nat → Int} {i : Nat} (h0 : firstE f i = 0) (h : f i ≠ 0) : ∀ n, i < n → firstE f n = f i
 | 0, hn => by omega
 | n + 1, hn => by
  simp only [firstE]
  by_cases e : i = n
  ·subst e; rw [if_pos h0]
  ·rw [firstE_stop h0 h n (by omega), if_neg h]
def nodeE (a b : Gr) (m : Mo) (i : Nat) : Int :=
 if m.nodes.getD i 0 < 0 ∨ (b.nodes.length : Int) ≤ m.nodes.getD i 0 then 6 else if b.nodes.getD (m.nodes.getD i 0).toNat 0 = a.nodes.getD i 0 then 0 else 13
def edgeE (a b : Gr) (m : Mo) (i : Nat) : Int :=
 if m.edges.getD i 0 < 0 ∨ (b.edges.length : Int) ≤ m.edges.getD i 0 then 6 else
  let x := a.edges.getD i default
  let y := b.edges.getD (m.edges.getD i 0).toNat default
  if x.ty ≠ y.ty then 13 else if m.nodes.getD x.fr.toNat 0 ≠ y.fr ∨ m.nodes.getD x.to.toNat 0 ≠ y.to then 11 else 0
def validM (a b : Gr) (m : Mo) : Int :=
 if validG a ≠ 0 then validG a else if validG b ≠ 0 then validG b else if m.nodes.length ≠ a.nodes.length ∨ m.edges.length ≠ a.edges.length then 20
 else if firstE (nodeE a b m) a.nodes.length ≠ 0 then firstE (nodeE a b m) a.nodes.length else firstE (edgeE a b m) a.edges.length
def st51a (a b : Gr) (m : Mo) (nb : Nat) (box : Bxs) (tok : Tks) (nt : Nat) (i : Nat) : AState :=
 ⟨tl [(3, .ptr (nb + 3) 0 0), (4, .ptr (nb + 4) 0 0), (5, .ptr (nb + 5) 0 0), (42, .d (ints m.nodes)), (43, I m.nodes.length), (44, I i)],
  lb nb box [(3, [[.d (ints a.nodes), .d (AM.edges a.edges)]]), (4, [[.d (ints b.nodes), .d (AM.edges b.edges)]]), (5, [[.d (ints m.nodes), .d (ints m.edges)]])], tok, nt⟩
def st51b (a b : Gr) (m : Mo) (nb : Nat) (box : Bxs) (tok : Tks) (nt : Nat) (i : Nat) : AState :=
 ⟨tl [(3, .ptr (nb + 3) 0 0), (4, .ptr (nb + 4) 0 0), (5, .ptr (nb + 5) 0 0), (71, .d (ints m.edges)), (72, I m.edges.length), (73, I i)],
  lb nb box [(3, [[.d (ints a.nodes), .d (AM.edges a.edges)]]), (4, [[.d (ints b.nodes), .d (AM.edges b.edges)]]), (5, [[.d (ints m.nodes), .d (ints m.edges)]])], tok, nt⟩
theorem valid51_c (a b : Gr) (m : Mo) (ha : a.Fit) (hb : b.Fit) (tok : Tks) (nt : Nat) : DCall Tryz.prog 87 [a.av, b.av, m.av] tok nt (I (validM a b m)) tok nt := by
 intro box nb
 have han := ha.n
 have hae := ha.e
 have hbn := hb.n
 have hbe := hb.e
 refine sB Tryz.func87 Tryz.ntmps87 ?_
 intro hbox htok
 simp only at hbox htok
 apply AL.start
 refine sR ?_
 simp
 refine sR ?_
 simp
 refine Stop.of_d (graphValid_c a ha _ _) ?_
 simp
 by_cases hva : validG a = 0
 ·refine sR ?_
  simp [hva]
  refine sC ?_
  simp
  refine sR ?_
  simp
  refine Stop.of_d (graphValid_c b hb _ _) ?_
  simp
  by_cases hvb : validG b = 0
  ·refine sR ?_
   simp [hvb]
   refine sC ?_
   simp
   have hxa := validG_edges hva
   have hxb := validG_edges hvb
   refine sR ?_
   simp
   by_cases hl1 : m.nodes.length = a.nodes.length
   ·simp [hl1]
    refine sC ?_
    simp
    refine ⟨fun hl2 => ?_, fun hl2 => ?_⟩
    ·refine sR ?_
     simp
     have hR : validM a b m = 20 := by
      have : ¬ m.edges.length = a.edges.length := by omega
      simp [validM, hva, hvb, this]
     refine sT ?_
     try simp only [AU]
     refine ⟨by simp, sF hbox htok (fun _ h => h) (Nat.le_refl _) ?_⟩
     simp [packA, hR]
    ·refine sR ?_
     simp
     refine sN ?_
     have hl2' : m.edges.length = a.edges.length := by omega
     have hRn : ∀ i, i < a.nodes.length → firstE (nodeE a b m) i = 0 → nodeE a b m i ≠ 0 → validM a b m = nodeE a b m i := fun i hi h0 hne => by
      have := firstE_stop h0 hne a.nodes.length hi
      simp [validM, hva, hvb, hl1, hl2', this, hne]
     refine AL.loopT (st51a a b m nb box tok nt) (fun i => i ≤ m.nodes.length ∧ firstE (nodeE a b m) i = 0) (fun i => m.nodes.length - i) 0 ⟨Nat.zero_le _, rfl⟩ (Weaks.mk (Nat.le_refl _) rfl (by simp [ToL, lk]) (by simp [BoxL, lk])) ?_
     rintro i S ⟨hi, hok⟩ hS
     simp only [st51a] at hS
     subst hS
     have hw := sW (i := i) (by omega)
     refine sR ?_
     simp
     refine sC ?_
     simp
     refine ⟨fun hlt => ?_, fun hge => ?_⟩
     ·have hia : i < a.nodes.length := by omega
      have hgm : m.nodes.getD i 0 = m.nodes[i] := by simp [hlt]
      have hga : a.nodes.getD i 0 = a.nodes[i] := by simp [hia]
      refine sR ?_
      simp [hlt]
      by_cases hneg : m.nodes[i] < 0
      ·refine sR ?_
       simp [hneg]
       refine sC ?_
       simp
       refine sR ?_
       simp
       have hN : nodeE a b m i = 6 := by simp only [nodeE, hgm]; rw [if_pos (.inl hneg)]
       have hR := hRn i hia hok (by rw [hN]; decide)
       refine sT ?_
       try simp only [AU]
       refine ⟨by simp, sF hbox htok (fun _ h => h) (Nat.le_refl _) ?_⟩
       simp [packA, hR, hN]
      ·refine sR ?_
       simp [hneg]
       refine sC ?_
       simp
       refine ⟨fun hbig => ?_, fun hsm => ?_⟩
       ·refine sR ?_
        simp
        have hN : nodeE a b m i = 6 := by simp only [nodeE, hgm]; rw [if_pos (.inr (by omega))]
        have hR := hRn i hia hok (by rw [hN]; decide)
        refine sT ?_
        try simp only [AU]
        refine ⟨by simp, sF hbox htok (fun _ h => h) (Nat.le_refl _) ?_⟩
        simp [packA, hR, hN]
       ·have hkb : m.nodes[i].toNat < b.nodes.length := by omega
        have h0 : 0 ≤ m.nodes[i] := by omega
        have hgb : b.nodes.getD m.nodes[i].toNat 0 = b.nodes[m.nodes[i].toNat] := by simp [hkb]
        have hnb : ¬ (b.nodes.length : Int) ≤ m.nodes[i] := by omega
        refine sR ?_
        simp [hkb, h0, hsm, hia]
        refine sC ?_
        simp
        refine ⟨fun hne => ?_, fun heq => ?_⟩
        ·refine sR ?_
         simp
         have hN : nodeE a b m i = 13 := by simp only [nodeE, hgm, hga, hgb]; rw [if_neg (by omega), if_neg hne]
         have hR := hRn i hia hok (by rw [hN]; decide)
         refine sT ?_
         try simp only [AU]
         refine ⟨by simp, sF hbox htok (fun _ h => h) (Nat.le_refl _) ?_⟩
         simp [packA, hR, hN]
        ·refine sR ?_
         simp [hw]
         refine sE ?_
         refine ⟨i + 1, ⟨hlt, ?_⟩, by omega, Weaks.mk (Nat.le_refl _) rfl (by simp [ToL, lk]) (by simp [BoxL, lk])⟩
         have hN : nodeE a b m i = 0 := by simp only [nodeE, hgm, hga, hgb]; rw [if_neg (by omega), if_pos heq]
         simp only [firstE, hok, hN, ↓reduceIte]
     ·refine sX ?_
      simp only [AU, ↓reduceIte]
      have hin : i = a.nodes.length := by omega
      subst hin
      refine sR ?_
      simp
      refine sN ?_
      have hRe : ∀ i, i < a.edges.length → firstE (edgeE a b m) i = 0 → edgeE a b m i ≠ 0 → validM a b m = edgeE a b m i := fun i hi h0 hne => by
       have := firstE_stop h0 hne a.edges.length hi
       simp [validM, hva, hvb, hl1, hl2', hok, this]
      refine AL.loopT (st51b a b m nb box tok nt) (fun i => i ≤ m.edges.length ∧ firstE (edgeE a b m) i = 0) (fun i => m.edges.length - i) 0 ⟨Nat.zero_le _, rfl⟩ (Weaks.mk (Nat.le_refl _) rfl (by simp [ToL, lk]) (by simp [BoxL, lk])) ?_
      rintro i S ⟨hi, hoke⟩ hS
      simp only [st51b] at hS
      subst hS
      have hw := sW (i := i) (by omega)
      refine sR ?_
      simp
      refine sC ?_
      simp
      refine ⟨fun hlt => ?_, fun hge => ?_⟩
      ·have hia : i < a.edges.length := by omega
       have hgm : m.edges.getD i 0 = m.edges[i] := by simp [hlt]
       have hga : a.edges.getD i default = a.edges[i] := by simp [hia]
       obtain ⟨x1, x2, x3, x4⟩ := hxa _ (List.getElem_mem hia)
       rw [← hl1] at x2 x4
       have y1 : a.edges[i].fr.toNat < m.nodes.length := by omega
       have y2 : a.edges[i].to.toNat < m.nodes.length := by omega
       have hg1 : m.nodes.getD a.edges[i].fr.toNat 0 = m.nodes[a.edges[i].fr.toNat] := by simp [y1]
       have hg2 : m.nodes.getD a.edges[i].to.toNat 0 = m.nodes[a.edges[i].to.toNat] := by simp [y2]
       refine sR ?_
       simp [hlt]
       by_cases hneg : m.edges[i] < 0
       ·refine sR ?_
        simp [hneg]
        refine sC ?_
        simp
        refine sR ?_
        simp
        have hN : edgeE a b m i = 6 := by simp only [edgeE, hgm]; rw [if_pos (.inl hneg)]
        have hR := hRe i hia hoke (by rw [hN]; decide)
        refine sT ?_
        try simp only [AU]
        refine ⟨by simp, sF hbox htok (fun _ h => h) (Nat.le_refl _) ?_⟩
        simp [packA, hR, hN]
       ·refine sR ?_
        simp [hneg]
        refine sC ?_
        simp
        refine ⟨fun hbig => ?_, fun hsm => ?_⟩
        ·refine sR ?_
         simp
         have hN : edgeE a b m i = 6 := by simp only [edgeE, hgm]; rw [if_pos (.inr (by omega))]
         have hR := hRe i hia hoke (by rw [hN]; decide)
         refine sT ?_
         try simp only [AU]
         refine ⟨by simp, sF hbox htok (fun _ h => h) (Nat.le_refl _) ?_⟩
         simp [packA, hR, hN]
        ·have hkb : m.edges[i].toNat < b.edges.length := by omega
         have h0 : 0 ≤ m.edges[i] := by omega
         have hgb : b.edges.getD m.edges[i].toNat default = b.edges[m.edges[i].toNat] := by simp [hkb]
         have hnn : ¬ (m.edges[i] < 0 ∨ (b.edges.length : Int) ≤ m.edges[i]) := by omega
         refine sN ?_
         refine AL.region2 follows_Tryz (Nat.le_refl _) (by kernel_rfl) (Side.of (by simp)) ?_
         simp [hkb, h0, hsm, hia]
         generalize hy : b.edges[m.edges[i].toNat] = y at *
         refine sR ?_
         simp
         refine sC ?_
         simp
         refine ⟨fun hty => ?_, fun hty => ?_⟩
         ·refine sR ?_
          simp
          have hN : edgeE a b m i = 13 := by simp only [edgeE, hgm, hga, hgb]; rw [if_neg hnn, if_pos hty]
          have hR := hRe i hia hoke (by rw [hN]; decide)
          refine sT ?_
          try simp only [AU]
          refine ⟨by simp, sF hbox htok (fun _ h => h) (Nat.le_refl _) ?_⟩
          simp [packA, hR, hN]
         ·refine sR ?_
          simp [x1, x2, x3, x4, y1, y2]
          by_cases hfr : m.nodes[a.edges[i].fr.toNat] = y.fr
          ·have hb1 : (m.nodes[a.edges[i].fr.toNat] != y.fr) = false := by simp [hfr]
           simp only [hb1]
           simp [x1, x2, x3, x4, y1, y2]
           refine sC ?_
           simp
           refine ⟨fun hto => ?_, fun hto => ?_⟩
           ·refine sR ?_
            simp
            have hN : edgeE a b m i = 11 := by simp only [edgeE, hgm, hga, hgb, hg1, hg2]; rw [if_neg hnn, if_neg (by simp [hty]), if_pos (.inr hto)]
            have hR := hRe i hia hoke (by rw [hN]; decide)
            refine sT ?_
            try simp only [AU]
            refine ⟨by simp, sF hbox htok (fun _ h => h) (Nat.le_refl _) ?_⟩
            simp [packA, hR, hN]
           ·refine sR ?_
            simp [hw]
            refine sE ?_
            refine ⟨i + 1, ⟨hlt, ?_⟩, by omega, Weaks.mk (Nat.le_refl _) rfl (by simp [ToL, lk]) (by simp [BoxL, lk])⟩
            have hN : edgeE a b m i = 0 := by simp only [edgeE, hgm, hga, hgb, hg1, hg2]; rw [if_neg hnn, if_neg (by simp [hty]), if_neg (by simp [hfr, hto])]
            simp only [firstE, hoke, hN, ↓reduceIte]
          ·have hb1 : (m.nodes[a.edges[i].fr.toNat] != y.fr) = true := by simp [hfr]
           simp only [hb1]
           simp
           refine sC ?_
           simp
           refine sR ?_
           simp
           have hN : edgeE a b m i = 11 := by simp only [edgeE, hgm, hga, hgb, hg1, hg2]; rw [if_neg hnn, if_neg (by simp [hty]), if_pos (.inl hfr)]
           have hR := hRe i hia hoke (by rw [hN]; decide)
           refine sT ?_
           try simp only [AU]
           refine ⟨by simp, sF hbox htok (fun _ h => h) (Nat.le_refl _) ?_⟩
           simp [packA, hR, hN]
      ·refine sX ?_
       simp only [AU, ↓reduceIte]
       have hin : i = a.edges.length := by omega
       subst hin
       refine sR ?_
       simp
       have hR : validM a b m = 0 := by simp [validM, hva, hvb, hl1, hl2', hok, hoke]
       refine sT ?_
       try simp only [AU]
       refine ⟨by simp, sF hbox htok (fun _ h => h) (Nat.le_refl _) ?_⟩
       simp [packA, hR]
   ·have hb1 : ((m.nodes.length : Int) != (a.nodes.length : Int)) = true := by simp; omega
    simp only [hb1]
    simp
    refine sC ?_
    simp
    refine sR ?_
    simp
    have hR : validM a b m = 20 := by simp [validM, hva, hvb, hl1]
    refine sT ?_
    try simp only [AU]
    refine ⟨by simp, sF hbox htok (fun _ h => h) (Nat.le_refl _) ?_⟩
    simp [packA, hR]
  ·refine sR ?_
   simp
   refine sC ?_
   simp [hvb]
   refine sR ?_
   simp
   refine sT ?_
   try simp only [AU]
   refine ⟨by simp, sF hbox htok (fun _ h => h) (Nat.le_refl _) ?_⟩
   simp [packA, validM, hva, hvb]
 ·refine sR ?_
  simp
  refine sC ?_
  simp [hva]
  refine sR ?_
  simp
  refine sT ?_
  try simp only [AU]
  refine ⟨by simp, sF hbox htok (fun _ h => h) (Nat.le_refl _) ?_⟩
  simp [packA, validM, hva]
end Go.AM
namespace Go.AM
open Go Go.Proofs
end Go.AM
namespace Go.AM
open Go Go.Proofs
def covK (l k : List Int) (i : Nat) : Bool := (List.range i).all fun j => decide ((j : Int) ∈ l) || decide ((j : Int) ∈ k)
def jointly (a b x : Gr) (h k : Mo) : Bool := decide (validM a x h = 0) && (decide (validM b x k = 0) && (covK h.nodes k.nodes x.nodes.length && covK h.edges k.edges x.edges.length))
structure Mo.Big (m : Mo) : Prop where
 n : m.nodes.length ≤ 281474976710656
 e : m.edges.length ≤ 281474976710656
end Go.AM
namespace Go.AM
open Go
def okAt (ok : Nat → Nat → Bool) (na : Nat) (x : List Int) (i : Nat) : Prop := x.getD i 0 = -1 ∨ ∃ k : Nat, x.getD i 0 = k ∧ k < na ∧ ok i k = true ∧ (k : Int) ∉ x.take i
def isM (ok : Nat → Nat → Bool) (na nb : Nat) (x : List Int) : Prop := x.length = nb ∧ ∀ i, i < nb → okAt ok na x i
theorem isM_inj {ok : Nat → Nat → Bool} {na nb : Nat} {x : List Int} (h : isM ok na nb x) {i j k : Nat} (hi : i < nb) (hj : j < nb) (h1 : x.getD i 0 = (k : Int)) (h2 : x.getD j 0 = (k : Int)) : i = j := by
 have key : ∀ i j : Nat, i < j → j < nb → x.getD i 0 = (k : Int) → x.getD j 0 = (k : Int) → False := by
  intro i j hij hj h1 h2
  rcases h.2 j hj with e | ⟨q, e, _, _, hq⟩
  ·rw [e] at h2; omega
  ·have : (q : Int) = k := e.symm.trans h2
   rw [this] at hq
   apply hq
   have hlen := h.1
   rw [List.mem_take_iff_getElem]
   refine ⟨i, by omega, ?_⟩
   have : x.getD i 0 = x[i]'(by omega) := by rw [List.getD_eq_getElem?_getD, List.getElem?_eq_getElem (by omega)]; rfl
   rw [← this]; exact h1
 rcases Nat.lt_trichotomy i j with h' | h' | h'
 ·exact (key i j h' hj h1 h2).elim
 ·exact h'
 ·exact (key j i h' hi h2 h1).elim
theorem indexI_spec (x : List Int) (k : Int) : (indexI x k = -1 ∧ k ∉ x) ∨ ∃ i : Nat, indexI x k = i ∧ i < x.length ∧ x.getD i 0 = k := by
 unfold indexI
 by_cases h : k ∈ x
 ·right
  rw [if_pos h]
  have h1 := List.idxOf_lt_length_of_mem h
  refine ⟨x.idxOf k, rfl, h1, ?_⟩
  rw [List.getD_eq_getElem?_getD, List.getElem?_eq_getElem h1]
  simp
 ·left
  rw [if_neg h]
  exact ⟨rfl, h⟩
theorem nodup_le {α : Type} [DecidableEq α] : ∀ (l m : List α), l.Nodup → (∀ x ∈ l, x ∈ m) → l.length ≤ m.length
 | [], m, _, _ => Nat.zero_le _
 | x :: l, m, hn, h => by
  have hn' := List.nodup_cons.1 hn
  have hx := h x (by simp)
  have := nodup_le l (m.erase x) hn'.2 fun y hy => (List.mem_erase_of_ne (show y ≠ x from fun e => hn'.1 (by rw [← e]; exact hy))).2 (h y (by simp [hy]))
  rw [List.length_erase_of_mem hx] at this
  have hp : 0 < m.length := List.length_pos_of_mem hx
  simp only [List.length_cons]
  omega
def okN (a b : Gr) (i k : Nat) : Bool := decide (a.nodes.getD k 0 = b.nodes.getD i 0)
def okE (a b : Gr) (x : List Int) (i k : Nat) : Bool := decide (a.edges.getD k default = ⟨(b.edges.getD i default).ty, x.getD (b.edges.getD i default).fr.toNat 0, x.getD (b.edges.getD i default).to.toNat 0⟩)
def isPair (a b : Gr) (p : List Int × List Int) : Prop := isM (okN a b) a.nodes.length b.nodes.length p.1 ∧ isM (okE a b p.1) a.edges.length b.edges.length p.2
def EOk (g : Gr) : Prop := ∀ e ∈ g.edges, 0 ≤ e.fr ∧ e.fr < g.nodes.length ∧ 0 ≤ e.to ∧ e.to < g.nodes.length
end Go.AM
namespace Go.AM
open Go Go.Proofs
structure Dr where
 nodes : List Int
 edges : List (Int × Int × Int)
abbrev u8 (n : Int) : D := .raw (.int .u8 n)
abbrev Dr.av (x : Dr) : AV := .agg [.d (.sl 1 (x.nodes.map fun n => [u8 n])), .d (.sl 3 (x.edges.map fun e => [u8 e.1, u8 e.2.1, u8 e.2.2]))]
def distK (l : List Int) (i : Nat) : Bool := (List.range i).all fun j => (List.range j).all fun k => decide (l.getD j 0 ≠ l.getD k 0)
def injM (a b : Gr) (m : Mo) : Bool := decide (validM a b m = 0) && (distK m.nodes m.nodes.length && distK m.edges m.edges.length)
structure Dr.U8 (x : Dr) : Prop where
 n : ∀ k ∈ x.nodes, 0 ≤ k ∧ k < 256
 e : ∀ k ∈ x.edges, (0 ≤ k.1 ∧ k.1 < 256) ∧ (0 ≤ k.2.1 ∧ k.2.1 < 256) ∧ (0 ≤ k.2.2 ∧ k.2.2 < 256)
def mN (x : Dr) (i : Nat) : List Int := (x.nodes.take i).map fun n => n % 3
theorem mN_zero (x : Dr) : mN x 0 = [] := by simp [mN]
@[simp] theorem mN_len (x : Dr) (i : Nat) : (mN x i).length = min i x.nodes.length := by simp [mN]
theorem mN_succ (x : Dr) {i : Nat} (h : i < x.nodes.length) : mN x (i + 1) = mN x i ++ [x.nodes[i] % 3] := by simp only [mN, List.take_add_one, List.getElem?_eq_getElem h, Option.toList, List.map_append, List.map_cons, List.map_nil]
def mE (x : Dr) (n : Int) (i : Nat) : List E := (x.edges.take i).map fun e => ⟨e.1 % 2, e.2.1 % n, e.2.2 % n⟩
theorem mE_zero (x : Dr) (n : Int) : mE x n 0 = [] := by simp [mE]
@[simp] theorem mE_len (x : Dr) (n : Int) (i : Nat) : (mE x n i).length = min i x.edges.length := by simp [mE]
theorem mE_succ (x : Dr) (n : Int) {i : Nat} (h : i < x.edges.length) : mE x n (i + 1) = mE x n i ++ [⟨x.edges[i].1 % 2, x.edges[i].2.1 % n, x.edges[i].2.2 % n⟩] := by simp only [mE, List.take_add_one, List.getElem?_eq_getElem h, Option.toList, List.map_append, List.map_cons, List.map_nil]
def madeG (x : Dr) : Gr := ⟨mN x 8, if x.nodes.length = 0 then [] else mE x (mN x 8).length 10⟩
def st25a (x : Dr) (nb : Nat) (box : Bxs) (a : Acc) : AState :=
  ⟨tl [(4, I a.i), (3, AV.ptr (nb + 3) 0 0), (2, AV.ptr (nb + 2) 0 0), (1, AV.ptr (nb + 1) 0 0)],
    lb nb box [(3, [[.osl 1 (rI (mN x a.i)) a.own, .osl 3 [] Own.full]]),
            (1, [[AV.d (D.sl 1 (List.map (fun n => [u8 n]) x.nodes)), AV.d (D.sl 3 (List.map (fun e => [u8 e.fst, u8 e.snd.fst, u8 e.snd.snd]) x.edges))]]), (2, [[.bot, .bot]])], a.tok, a.nt⟩
theorem madeG_eq (x : Dr) (i k : Nat) (hi : i = min 8 x.nodes.length) (hk : k = min 10 x.edges.length ∨ i = 0) (hk0 : i = 0 → k = 0) : madeG x = ⟨mN x i, mE x i k⟩ := by
 have h1 : mN x 8 = mN x i := by rw [hi]; unfold mN; rw [List.take_eq_take_min]
 unfold madeG
 rw [h1]
 by_cases h0 : x.nodes.length = 0
 ·have : i = 0 := by omega
  rw [if_pos h0, hk0 this, mE_zero]
 ·have hi0 : ¬ i = 0 := by omega
  have hk' : k = min 10 x.edges.length := by rcases hk with h | h; exact h; exact absurd h hi0
  have h2 : (mN x i).length = i := by rw [mN_len]; omega
  rw [if_neg h0, h2]
  congr 1
  rw [hk']; unfold mE; rw [List.take_eq_take_min]
def st25b (x : Dr) (n : Nat) (nb : Nat) (box : Bxs) (a : Acc) : AState :=
  ⟨tl [(5, I n), (6, I a.i), (3, AV.ptr (nb + 3) 0 0), (2, AV.ptr (nb + 2) 0 0), (1, AV.ptr (nb + 1) 0 0)],
    lb nb box [(3, [[.d (ints (mN x n)), .osl 3 (rE (mE x n a.i)) a.own]]),
            (1, [[AV.d (D.sl 1 (List.map (fun n => [u8 n]) x.nodes)), AV.d (D.sl 3 (List.map (fun e => [u8 e.fst, u8 e.snd.fst, u8 e.snd.snd]) x.edges))]]), (2, [[.bot, .bot]])], a.tok, a.nt⟩
theorem made25_c (x : Dr) (hx : x.U8) (tok : Tks) (nt : Nat) : DCall Tryz.prog 136 [x.av] tok nt (madeG x).av tok nt := by
 intro box nb
 refine sB Tryz.func136 Tryz.ntmps136 ?_
 intro hbox htok
 simp only at hbox htok
 apply AL.start
 refine sR ?_
 simp
 refine sR ?_
 simp
 refine sR ?_
 simp
 refine sN ?_
 refine AL.loopT (st25a x nb box) (fun a => a.i ≤ x.nodes.length ∧ a.i ≤ 8 ∧ TK tok nt a.tok a.nt [a.own]) (fun a => x.nodes.length - a.i) ⟨0, .full, tok, nt⟩ ⟨Nat.zero_le _, Nat.zero_le _, (TK.start htok).full⟩ ?_ ?_
 ·simp only [st25a]
  exact Weaks.mk (Nat.le_refl _) rfl (by simp [ToL, lk]) (by simp [BoxL, lk, mN_zero])
 rintro ⟨i, own, tok', nt'⟩ S ⟨hi, hi8, htk⟩ hS
 simp only [st25a] at hS hi hi8 htk
 subst hS
 have hw := sW (i := i) (by omega)
 refine sR ?_
 simp
 by_cases h1 : i < x.nodes.length
 case' neg =>
  simp [h1]
  refine sC ?_
  simp
  refine sX ?_
  simp only [AU, ↓reduceIte]
  have hex : i = min 8 x.nodes.length := by omega
 case' pos =>
  simp [h1]
  refine sC ?_
  simp
  refine ⟨fun hlt => ?stepg, fun hge => ?exg⟩
  case' exg =>
   refine sX ?_
   simp only [AU, ↓reduceIte]
   have hex : i = min 8 x.nodes.length := by omega
  case stepg =>
   have hu := hx.n _ (List.getElem_mem h1)
   have hm : x.nodes[i].tmod 3 = x.nodes[i] % 3 := Int.tmod_eq_emod_of_nonneg hu.1
   have hwm : IntKind.i64.wrap (x.nodes[i] % 3) = x.nodes[i] % 3 := wrap_in (by omega) (by omega)
   refine sR ?_
   simp [h1]
   refine ⟨⟨by omega, htk.live⟩, ?_⟩
   refine sR ?_
   simp [hw]
   refine sE ?_
   exact ⟨⟨i + 1, _, _, _⟩, ⟨h1, by simp only; omega, htk.app⟩, by simp; omega, Weaks.mk htk.app.le rfl (by simp [ToL, lk]) (by simp [BoxL, lk, mN_succ x h1, hm, hwm])⟩
 all_goals
  have hmin : min i x.nodes.length = i := by omega
  refine sR ?_
  simp [hmin]
  refine sR ?_
  simp
  refine sN ?_
  refine AL.loopT (st25b x i nb box) (fun a => a.i ≤ x.edges.length ∧ a.i ≤ 10 ∧ (i = 0 → a.i = 0) ∧ TK tok nt a.tok a.nt [a.own]) (fun a => x.edges.length - a.i) ⟨0, .full, tok', nt'⟩ ⟨Nat.zero_le _, Nat.zero_le _, fun _ => rfl, htk.tail.full⟩ (Weaks.mk htk.le rfl (by simp [ToL, lk]) (by simp [BoxL, lk, mE_zero])) ?_
  rintro ⟨k, own2, tok2, nt2⟩ S ⟨hk, hk10, hk0, htk2⟩ hS
  simp only [st25b] at hS hk hk10 hk0 htk2
  subst hS
  have hw := sW (i := k) (by omega)
  refine sR ?_
  simp
  have hzero : i = 0 → x.nodes.length = 0 := by omega
  by_cases g1 : k < x.edges.length
  case' neg =>
   simp [g1]
   refine sC ?_
   simp
   refine sX ?_
   simp only [AU, ↓reduceIte]
   have hR := madeG_eq x i k hex (by omega) hk0
  case' pos =>
   by_cases g2 : (k : Int) < 10
   case' neg =>
    simp [g1, g2]
    refine sC ?_
    simp
    refine sX ?_
    simp only [AU, ↓reduceIte]
    have hR := madeG_eq x i k hex (by omega) hk0
   case' pos =>
    by_cases g3 : 0 < i
    case' neg =>
     simp [g1, g2, g3]
     refine sC ?_
     simp
     refine sX ?_
     simp only [AU, ↓reduceIte]
     have hR := madeG_eq x i k hex (by omega) hk0
    case' pos =>
     obtain ⟨⟨u1, u2⟩, ⟨v1, v2⟩, ⟨w1, w2⟩⟩ := hx.e _ (List.getElem_mem g1)
     simp [g1, g2, g3]
     refine sC ?_
     simp
     have hi0 : ¬ i = 0 := by omega
     refine sR ?_
     simp [g1, g3, hi0]
     refine ⟨⟨by omega, htk2.live⟩, ?_⟩
     refine sR ?_
     simp [hw]
     refine sE ?_
     have q1 : IntKind.i64.wrap (x.edges[k].1.tmod 2) = x.edges[k].1 % 2 := by rw [Int.tmod_eq_emod_of_nonneg u1]; exact wrap_in (by omega) (by omega)
     have q2 : (IntKind.i64.wrap x.edges[k].2.1).tmod (i : Int) = x.edges[k].2.1 % (i : Int) := by rw [wrap_in (by omega) (by omega), Int.tmod_eq_emod_of_nonneg v1]
     have q3 : (IntKind.i64.wrap x.edges[k].2.2).tmod (i : Int) = x.edges[k].2.2 % (i : Int) := by rw [wrap_in (by omega) (by omega), Int.tmod_eq_emod_of_nonneg w1]
     exact ⟨⟨k + 1, _, _, _⟩, ⟨g1, by simp only; omega, htk2.app⟩, by simp; omega, Weaks.mk htk2.app.le rfl (by simp [ToL, lk]) (by simp [BoxL, lk, mE_succ x i g1, q1, q2, q3])⟩
  all_goals
   refine sR ?_
   simp
   refine sT ?_
   try simp only [AU]
   refine ⟨by simp, sF hbox htok htk2.old htk2.le ?_⟩
   simp [packA, hR]
end Go.AM
namespace Go.AM
open Go
theorem getD_lt {α : Type} {r : List α} {v d : α} {j : Nat} (h : j < r.length) : (r ++ [v]).getD j d = r.getD j d := by
 simp [List.getD_eq_getElem?_getD, List.getElem?_append_left h]
theorem getD_at {α : Type} {r : List α} {v d : α} : (r ++ [v]).getD r.length d = v := by
 simp [List.getD_eq_getElem?_getD]
theorem getD_pre {α : Type} {r t : List α} {d : α} {j : Nat} (h : j < r.length) : (r ++ t).getD j d = r.getD j d := by
 simp [List.getD_eq_getElem?_getD, List.getElem?_append_left h]
theorem getD_mem {α : Type} {r : List α} {d : α} {j : Nat} (h : j < r.length) : r.getD j d ∈ r := by
 simp [List.getD_eq_getElem?_getD, List.getElem?_eq_getElem h]
theorem iota_getD {n j : Nat} (h : j < n) : (iota n).getD j 0 = j := by
 simp [iota, List.getD_eq_getElem?_getD, h]
def glueG {α : Type} [Inhabited α] (an bn : List α) (x : List Int) : Nat → List α × List Int
 | 0 => (an, [])
 | i + 1 => if x.getD i 0 < 0 then ((glueG an bn x i).1 ++ [bn.getD i default], (glueG an bn x i).2 ++ [((glueG an bn x i).1.length : Int)]) else ((glueG an bn x i).1, (glueG an bn x i).2 ++ [x.getD i 0])
theorem glueN_G (an bn l : List Int) : ∀ i, glueN an bn l i = glueG an bn l i
 | 0 => rfl
 | i + 1 => by
  simp only [glueN, glueG, glueN_G an bn l i]
  rfl
def mapE (rn : List Int) (e : E) : E := ⟨e.ty, rn.getD e.fr.toNat 0, rn.getD e.to.toNat 0⟩
theorem glueE_G (ae be : List E) (rn l : List Int) : ∀ i, i ≤ be.length → glueE ae be rn l i = glueG ae (be.map (mapE rn)) l i
 | 0, _ => rfl
 | i + 1, h => by
  have e : (be.map (mapE rn)).getD i default = mapE rn (be.getD i default) := by
   have : i < be.length := by omega
   simp [List.getD_eq_getElem?_getD, this]
  simp only [glueE, glueG, glueE_G ae be rn l i (by omega), e]
  rfl
structure GI {α : Type} [Inhabited α] (an bn : List α) (x : List Int) (i : Nat) (rn : List α) (r : List Int) : Prop where
 len : r.length = i
 pre : ∃ t, rn = an ++ t ∧ ∀ y ∈ t, y ∈ bn
 rng : ∀ j, j < i → 0 ≤ r.getD j 0 ∧ r.getD j 0 < rn.length
 val : ∀ j, j < i → rn.getD (r.getD j 0).toNat default = bn.getD j default
 neg : ∀ j, j < i → x.getD j 0 < 0 → (an.length : Int) ≤ r.getD j 0
 pos : ∀ j, j < i → ¬ x.getD j 0 < 0 → r.getD j 0 = x.getD j 0
 dist : ∀ j k, j < k → k < i → r.getD j 0 ≠ r.getD k 0
 cov : ∀ v : Nat, an.length ≤ v → v < rn.length → (v : Int) ∈ r
theorem glue_gi {α : Type} [Inhabited α] {an bn : List α} {x : List Int} {ok : Nat → Nat → Bool} (h : isM ok an.length bn.length x) (hok : ∀ i k, i < bn.length → k < an.length → ok i k = true → an.getD k default = bn.getD i default) :
  ∀ i, i ≤ bn.length → GI an bn x i (glueG an bn x i).1 (glueG an bn x i).2
 | 0, _ => ⟨rfl, ⟨[], by simp [glueG], by simp⟩, fun j hj => absurd hj (Nat.not_lt_zero _), fun j hj => absurd hj (Nat.not_lt_zero _), fun j hj => absurd hj (Nat.not_lt_zero _), fun j hj => absurd hj (Nat.not_lt_zero _), fun j k _ hj => absurd hj (Nat.not_lt_zero _), fun v h1 h2 => by simp only [glueG] at h2; omega⟩
 | i + 1, hi => by
  have g := glue_gi h hok i (by omega)
  simp only [glueG]
  generalize hrn : (glueG an bn x i).1 = rn at g ⊢
  generalize hr : (glueG an bn x i).2 = r at g ⊢
  obtain ⟨t, ht, htb⟩ := g.pre
  have hlen := g.len
  have hal : an.length ≤ rn.length := by rw [ht]; simp
  have hib : i < bn.length := by omega
  rcases h.2 i hib with hx | ⟨k, hx, hk, hkok, hnot⟩
  ·rw [if_pos (by omega)]
   have old : ∀ j, j < i → (r ++ [(rn.length : Int)]).getD j 0 = r.getD j 0 := fun j hj => getD_lt (by omega)
   have new : (r ++ [(rn.length : Int)]).getD i 0 = rn.length := by rw [← hlen]; exact getD_at
   refine ⟨by simp [hlen], ⟨t ++ [bn.getD i default], by rw [ht, List.append_assoc], ?_⟩, fun j hj => ?_, fun j hj => ?_, fun j hj => ?_, fun j hj => ?_, fun j k hjk hk => ?_, fun v h1 h2 => ?_⟩
   ·intro y hy
    rcases List.mem_append.1 hy with hy | hy
    ·exact htb y hy
    ·simp only [List.mem_singleton] at hy
     subst hy
     exact getD_mem hib
   ·simp only [List.length_append, List.length_cons, List.length_nil]
    by_cases e : j = i
    ·subst e; rw [new]; omega
    ·rw [old j (by omega)]; have := g.rng j (by omega); omega
   ·by_cases e : j = i
    ·subst e; rw [new, Int.toNat_natCast]; exact getD_at
    ·rw [old j (by omega), getD_lt (by have := g.rng j (by omega); omega)]; exact g.val j (by omega)
   ·by_cases e : j = i
    ·subst e; intro _; rw [new]; omega
    ·rw [old j (by omega)]; exact g.neg j (by omega)
   ·by_cases e : j = i
    ·subst e; intro hn; omega
    ·rw [old j (by omega)]; exact g.pos j (by omega)
   ·by_cases e : k = i
    ·subst e; rw [new, old j hjk]; have := g.rng j hjk; omega
    ·rw [old j (by omega), old k (by omega)]; exact g.dist j k hjk (by omega)
   ·simp only [List.length_append, List.length_cons, List.length_nil] at h2
    by_cases e : v = rn.length
    ·subst e; simp
    ·exact List.mem_append.2 (.inl (g.cov v h1 (by omega)))
  ·rw [if_neg (by omega)]
   have old : ∀ j, j < i → (r ++ [x.getD i 0]).getD j 0 = r.getD j 0 := fun j hj => getD_lt (by omega)
   have new : (r ++ [x.getD i 0]).getD i 0 = x.getD i 0 := by
    have : (r ++ [x.getD i 0]).getD r.length 0 = x.getD i 0 := getD_at
    rw [hlen] at this; exact this
   refine ⟨by simp [hlen], ⟨t, ht, htb⟩, fun j hj => ?_, fun j hj => ?_, fun j hj => ?_, fun j hj => ?_, fun j k' hjk hk' => ?_, fun v h1 h2 => ?_⟩
   ·by_cases e : j = i
    ·subst e; have hkr : ((k : Nat) : Int) < rn.length := by omega
     rw [new, hx]; exact ⟨by omega, hkr⟩
    ·rw [old j (by omega)]; exact g.rng j (by omega)
   ·by_cases e : j = i
    ·subst e; rw [new, hx, Int.toNat_natCast, ht, getD_pre hk]; exact hok j k hib hk hkok
    ·rw [old j (by omega)]; exact g.val j (by omega)
   ·by_cases e : j = i
    ·subst e; intro hn; omega
    ·rw [old j (by omega)]; exact g.neg j (by omega)
   ·by_cases e : j = i
    ·subst e; intro hn; exact new
    ·rw [old j (by omega)]; exact g.pos j (by omega)
   ·by_cases e : k' = i
    ·subst e
     rw [new, old j hjk]
     by_cases hn : x.getD j 0 < 0
     ·have := g.neg j hjk hn
      omega
     ·rw [g.pos j hjk hn]
      intro e2
      have := isM_inj h (show j < bn.length by omega) hib (by rw [e2]; exact hx) hx
      omega
    ·rw [old j (by omega), old k' (by omega)]; exact g.dist j k' hjk (by omega)
   ·exact List.mem_append.2 (.inl (g.cov v h1 h2))
theorem firstE_zero {f : Nat → Int} : ∀ n, (∀ i, i < n → f i = 0) → firstE f n = 0
 | 0, _ => rfl
 | n + 1, h => by
  simp only [firstE, firstE_zero n fun i hi => h i (by omega), ↓reduceIte]
  exact h n (by omega)
theorem distK_of {l : List Int} {n : Nat} (h : ∀ j k, j < k → k < n → l.getD j 0 ≠ l.getD k 0) : distK l n = true := by
 simp only [distK, List.all_eq_true, List.mem_range, decide_eq_true_eq]
 exact fun j hj k hk e => h k j hk hj e.symm
theorem validG_types {g : Gr} (h : validG g = 0) : (g.nodes.length ≤ 40 ∧ g.edges.length ≤ 80) ∧ (∀ n ∈ g.nodes, withinB n 99 = true) ∧ ∀ e ∈ g.edges, fitsB e g.nodes.length = true := by
 unfold validG at h
 split at h
 ·cases h
 ·rename_i h0
  split at h
  ·cases h
  ·rename_i h1
   split at h
   ·cases h
   ·rename_i h2
    simp only [anyB, List.any_eq_true, not_exists, not_and, Bool.not_eq_true', Bool.not_eq_false] at h1 h2
    exact ⟨by omega, h1, h2⟩
theorem validG_of {g : Gr} (h0 : g.nodes.length ≤ 40 ∧ g.edges.length ≤ 80) (h1 : ∀ n ∈ g.nodes, withinB n 99 = true) (h2 : ∀ e ∈ g.edges, fitsB e g.nodes.length = true) : validG g = 0 := by
 unfold validG
 rw [if_neg (by omega), if_neg, if_neg]
 ·simp only [anyB, List.any_eq_true, not_exists, not_and, Bool.not_eq_true', Bool.not_eq_false]; exact h2
 ·simp only [anyB, List.any_eq_true, not_exists, not_and, Bool.not_eq_true', Bool.not_eq_false]; exact h1
theorem fitsB_iff (e : E) (n : Int) : fitsB e n = true ↔ withinB e.ty 99 = true ∧ (0 ≤ e.fr ∧ e.fr < n) ∧ (0 ≤ e.to ∧ e.to < n) := by
 simp only [fitsB, withinB, Bool.and_eq_true, decide_eq_true_eq]
 omega
structure Glued (a b : Gr) (x es : List Int) : Prop where
 n : GI a.nodes b.nodes x b.nodes.length (glue a b x es).g.nodes (glue a b x es).r.nodes
 e : GI a.edges (b.edges.map (mapE (glue a b x es).r.nodes)) es b.edges.length (glue a b x es).g.edges (glue a b x es).r.edges
theorem glued_of {a b : Gr} (ha : EOk a) (hb : EOk b) {x es : List Int} (h : isPair a b (x, es)) : Glued a b x es := by
 obtain ⟨h1, h2⟩ := h
 simp only at h1 h2
 have hxl : x.length = b.nodes.length := h1.1
 have hel : es.length = b.edges.length := h2.1
 have gn : GI a.nodes b.nodes x b.nodes.length (glue a b x es).g.nodes (glue a b x es).r.nodes := by
  simp only [glue, glueN_G, hxl]
  refine glue_gi h1 (fun i k hi hk hok => ?_) _ (Nat.le_refl _)
  unfold okN at hok
  rw [decide_eq_true_eq] at hok
  exact hok
 refine ⟨gn, ?_⟩
 have key : isM (okE a b x) a.edges.length (b.edges.map (mapE (glue a b x es).r.nodes)).length es := by rw [List.length_map]; exact h2
 have := glue_gi (an := a.edges) (bn := b.edges.map (mapE (glue a b x es).r.nodes)) (x := es) (ok := okE a b x) key (fun i k hi hk hok => ?_) b.edges.length (by simp)
 ·have e0 : (glue a b x es).r.nodes = (glueN a.nodes b.nodes x x.length).2 := rfl
  have e1 : (glue a b x es).g.edges = (glueE a.edges b.edges (glueN a.nodes b.nodes x x.length).2 es es.length).1 := rfl
  have e2 : (glue a b x es).r.edges = (glueE a.edges b.edges (glueN a.nodes b.nodes x x.length).2 es es.length).2 := rfl
  rw [e1, e2, ← e0, hel, glueE_G _ _ _ _ _ (Nat.le_refl _)]
  exact this
 ·have hib : i < b.edges.length := by simpa using hi
  unfold okE at hok
  rw [decide_eq_true_eq] at hok
  have g1 : a.edges.getD k default = a.edges[k] := by simp [hk]
  have g2 : b.edges.getD i default = b.edges[i] := by simp [hib]
  have g3 : (b.edges.map (mapE (glue a b x es).r.nodes)).getD i default = mapE (glue a b x es).r.nodes b.edges[i] := by simp [hib]
  rw [g1, g2] at hok
  rw [g1, g3]
  obtain ⟨a1, a2, a3, a4⟩ := ha _ (List.getElem_mem hk)
  obtain ⟨b1, b2, b3, b4⟩ := hb _ (List.getElem_mem hib)
  have f1 : a.edges[k].fr = x.getD b.edges[i].fr.toNat 0 := congrArg E.fr hok
  have f2 : a.edges[k].to = x.getD b.edges[i].to.toNat 0 := congrArg E.to hok
  have p1 := gn.pos b.edges[i].fr.toNat (by omega) (by omega)
  have p2 := gn.pos b.edges[i].to.toNat (by omega) (by omega)
  unfold mapE
  rw [p1, p2]
  exact hok
theorem glue_law0 {a b : Gr} (hva : validG a = 0) (hvb : validG b = 0) {x es : List Int} (h : isPair a b (x, es)) (hs : (glue a b x es).g.nodes.length ≤ 40 ∧ (glue a b x es).g.edges.length ≤ 80) :
  validG (glue a b x es).g = 0 ∧ validM a (glue a b x es).g (glue a b x es).l = 0 ∧ validM b (glue a b x es).g (glue a b x es).r = 0 := by
 have ha := validG_edges hva
 have hb := validG_edges hvb
 obtain ⟨_, ta, tea⟩ := validG_types hva
 obtain ⟨_, tb, teb⟩ := validG_types hvb
 obtain ⟨gn, ge⟩ := glued_of ha hb h
 have hl : (glue a b x es).l = idM a := rfl
 rw [hl]
 generalize glue a b x es = o at *
 obtain ⟨tn, htn, htnb⟩ := gn.pre
 obtain ⟨te, hte, hteb⟩ := ge.pre
 have nl : a.nodes.length ≤ o.g.nodes.length := by rw [htn]; simp
 have el : a.edges.length ≤ o.g.edges.length := by rw [hte]; simp
 have hv : validG o.g = 0 := by
  refine validG_of (by omega) (fun n hn => ?_) fun e he => ?_
  ·rw [htn] at hn
   rcases List.mem_append.1 hn with hn | hn
   ·exact ta n hn
   ·exact tb n (htnb n hn)
  ·rw [hte] at he
   rw [fitsB_iff]
   rcases List.mem_append.1 he with he | he
   ·have := (fitsB_iff _ _).1 (tea e he)
    exact ⟨this.1, by omega, by omega⟩
   ·obtain ⟨y, hy, rfl⟩ := List.mem_map.1 (hteb e he)
    have := (fitsB_iff _ _).1 (teb y hy)
    obtain ⟨y1, y2, y3, y4⟩ := hb y hy
    have r1 := gn.rng y.fr.toNat (by omega)
    have r2 := gn.rng y.to.toNat (by omega)
    exact ⟨this.1, r1, r2⟩
 refine ⟨hv, ?_, ?_⟩
 ·unfold validM
  have z1 : firstE (nodeE a o.g (idM a)) a.nodes.length = 0 := firstE_zero _ fun i hi => by
   have e1 : (idM a).nodes.getD i 0 = i := iota_getD hi
   unfold nodeE
   rw [e1, if_neg (by omega), Int.toNat_natCast, if_pos]
   rw [htn, getD_pre hi]
  have z2 : firstE (edgeE a o.g (idM a)) a.edges.length = 0 := firstE_zero _ fun i hi => by
   have e1 : (idM a).edges.getD i 0 = i := iota_getD hi
   obtain ⟨a1, a2, a3, a4⟩ := ha _ (getD_mem (d := default) hi)
   have e2 : (idM a).nodes.getD (a.edges.getD i default).fr.toNat 0 = (a.edges.getD i default).fr.toNat := iota_getD (by omega)
   have e3 : (idM a).nodes.getD (a.edges.getD i default).to.toNat 0 = (a.edges.getD i default).to.toNat := iota_getD (by omega)
   unfold edgeE
   rw [e1, if_neg (by omega), Int.toNat_natCast]
   have e4 : o.g.edges.getD i default = a.edges.getD i default := by rw [hte, getD_pre hi]
   simp only [e4, e2, e3, ne_eq, not_true_eq_false, ↓reduceIte]
   rw [if_neg (by omega)]
  rw [if_neg (by simp [hva]), if_neg (by simp [hv]), if_neg (by simp [idM]), if_neg (by simp [z1]), z2]
 ·unfold validM
  have ln := gn.len
  have le := ge.len
  have z1 : firstE (nodeE b o.g o.r) b.nodes.length = 0 := firstE_zero _ fun i hi => by
   have r1 := gn.rng i hi
   unfold nodeE
   rw [if_neg (by omega), if_pos]
   exact gn.val i hi
  have z2 : firstE (edgeE b o.g o.r) b.edges.length = 0 := firstE_zero _ fun i hi => by
   have r1 := ge.rng i hi
   have v1 := ge.val i hi
   have g3 : (b.edges.map (mapE o.r.nodes)).getD i default = mapE o.r.nodes (b.edges.getD i default) := by simp [hi]
   rw [g3] at v1
   unfold edgeE
   rw [if_neg (by omega)]
   simp only [v1, mapE, ne_eq, not_true_eq_false, or_self, ↓reduceIte]
  rw [if_neg (by simp [hvb]), if_neg (by simp [hv]), if_neg (by omega), if_neg (by simp [z1]), z2]
theorem glue_law {a b : Gr} (hva : validG a = 0) (hvb : validG b = 0) (hs : a.nodes.length + b.nodes.length ≤ 40 ∧ a.edges.length + b.edges.length ≤ 80) {x es : List Int} (h : isPair a b (x, es)) :
  validG (glue a b x es).g = 0 ∧ validM a (glue a b x es).g (glue a b x es).l = 0 ∧ validM b (glue a b x es).g (glue a b x es).r = 0 := by
 have hxl : x.length = b.nodes.length := h.1.1
 have hel : es.length = b.edges.length := h.2.1
 have l1 := (glueN_len a.nodes b.nodes x x.length).1
 have l2 := (glueE_len a.edges b.edges (glueN a.nodes b.nodes x x.length).2 es es.length).1
 have m1 : (glue a b x es).g.nodes.length ≤ a.nodes.length + x.length := l1
 have m2 : (glue a b x es).g.edges.length ≤ a.edges.length + es.length := l2
 exact glue_law0 hva hvb h (by omega)
theorem glue_law2 {a b : Gr} (hva : validG a = 0) (hvb : validG b = 0) (hs : a.nodes.length + b.nodes.length ≤ 40 ∧ a.edges.length + b.edges.length ≤ 80) {x es : List Int} (h : isPair a b (x, es)) :
  injM a (glue a b x es).g (glue a b x es).l = true ∧ injM b (glue a b x es).g (glue a b x es).r = true ∧ jointly a b (glue a b x es).g (glue a b x es).l (glue a b x es).r = true := by
 obtain ⟨hv, h1, h2⟩ := glue_law hva hvb hs h
 obtain ⟨gn, ge⟩ := glued_of (validG_edges hva) (validG_edges hvb) h
 have i1 : ∀ n, distK (iota n) n = true := fun n => distK_of fun j k hjk hk => by
  rw [iota_getD hk, iota_getD (by omega)]; omega
 have i2 : ∀ l : List Int, ∀ n m : Nat, (∀ v : Nat, n ≤ v → v < m → (v : Int) ∈ l) → covK (iota n) l m = true := fun l n m hc => by
  simp only [covK, List.all_eq_true, List.mem_range, Bool.or_eq_true, decide_eq_true_eq]
  intro v hv
  by_cases hvn : v < n
  ·left; simp only [iota, List.mem_map, List.mem_range]; exact ⟨v, hvn, rfl⟩
  ·right; exact hc v (by omega) hv
 refine ⟨?_, ?_, ?_⟩
 ·have e1 : (glue a b x es).l = idM a := rfl
  unfold injM
  rw [h1, e1]
  simp [idM, i1]
 ·unfold injM
  rw [h2, gn.len, ge.len, distK_of gn.dist, distK_of ge.dist]
  rfl
 ·unfold jointly
  rw [h1, h2]
  have c1 := i2 _ _ _ gn.cov
  have c2 := i2 _ _ _ ge.cov
  have e1 : (glue a b x es).l.nodes = iota a.nodes.length := rfl
  have e2 : (glue a b x es).l.edges = iota a.edges.length := rfl
  rw [e1, e2, c1, c2]
  rfl
theorem madeG_len (x : Dr) : (madeG x).nodes.length ≤ 8 ∧ (madeG x).edges.length ≤ 10 := by
 refine ⟨by simp only [madeG, mN_len]; omega, ?_⟩
 simp only [madeG]
 split
 ·simp
 ·simp only [mE_len]; omega
theorem madeG_valid {x : Dr} (hx : x.U8) : validG (madeG x) = 0 := by
 have hl := madeG_len x
 refine validG_of (by omega) (fun n hn => ?_) fun e he => ?_
 ·simp only [madeG, mN, List.mem_map] at hn
  obtain ⟨k, hk, rfl⟩ := hn
  have := hx.n k (List.mem_of_mem_take hk)
  simp only [withinB, Bool.and_eq_true, decide_eq_true_eq]
  omega
 ·simp only [madeG] at he
  split at he
  ·simp at he
  ·rename_i h0
   simp only [mE, List.mem_map] at he
   obtain ⟨k, hk, rfl⟩ := he
   have := hx.e k (List.mem_of_mem_take hk)
   have hp : 0 < ((mN x 8).length : Int) := by rw [mN_len]; omega
   rw [fitsB_iff]
   simp only [withinB, Bool.and_eq_true, decide_eq_true_eq, madeG]
   have m1 := Int.emod_nonneg k.2.1 (show ((mN x 8).length : Int) ≠ 0 by omega)
   have m2 := Int.emod_lt_of_pos k.2.1 hp
   have m3 := Int.emod_nonneg k.2.2 (show ((mN x 8).length : Int) ≠ 0 by omega)
   have m4 := Int.emod_lt_of_pos k.2.2 hp
   exact ⟨by omega, ⟨m1, m2⟩, m3, m4⟩
end Go.AM
namespace Go.AM
open Go
variable {P : Program}
def Trans (cx : Cx) (nt0 : Nat) (S S' : AState) : Prop := ∀ G0 w0 G a w, Entry cx nt0 G0 → G0.nt ≤ nt0 → RelS cx.n cx.nb G S a w → LeC cx G0 w0 G w S → ∃ G', RelS cx.n cx.nb G' S' a w ∧ LeC cx G0 w0 G' w S'
theorem AT.trans {cx : Cx} {nt0 : Nat} {c : Code} {S S' : AState} {K : Exit → AState → Prop} (h : Trans cx nt0 S S') (k : AT P cx nt0 c S' K) : AT P cx nt0 c S K := by
 intro G0 w0 he hn G a w hr hl
 obtain ⟨G', hr', hl'⟩ := h G0 w0 G a w he hn hr hl
 exact k G0 w0 he hn G' a w hr' hl'
theorem AL.trans {cx : Cx} {nt0 : Nat} {K : Exit → AState → Prop} {r : List CI} {S S' : AState} {x : Code} (hw : Trans cx nt0 S S') (h : AL P cx nt0 K (.c x :: r) S') : AL P cx nt0 K (.c x :: r) S := by
 simp only [AL] at h ⊢
 exact AT.trans hw h
theorem AL.mid {cx : Cx} {nt0 : Nat} {K : Exit → AState → Prop} {r : List CI} {S : AState} {x y : Code} (T : AState)
  (h1 : AL P cx nt0 (fun e S' => match e with
   | .normal => Weaks cx nt0 S' T
   | e => AU P cx nt0 K (.c y :: r) e S') [.c x] S) (h2 : AL P cx nt0 K (.c y :: r) T) : AL P cx nt0 K (.c x :: .c y :: r) S := by
 have h3 := AL.start h1
 simp only [AL] at h2 ⊢
 refine h3.mono fun e S' h => ?_
 cases e with
 | normal => exact AT.weaks h h2
 | _ => exact h
inductive ThTo (t k sz : Nat) (es : List (List D)) : AV → AV → Prop
 | bot {x} : ThTo t k sz es x .bot
 | same {x} : ThTo t k sz es x x
 | ex : ThTo t k sz es (.ex t sz es) (.msl k 0 es.length sz)
 | agg {cs ds : List AV} (hl : cs.length = ds.length) (h : ∀ i (h1 : i < cs.length) (h2 : i < ds.length), ThTo t k sz es cs[i] ds[i]) : ThTo t k sz es (.agg cs) (.agg ds)
def ThR (t k sz : Nat) (es : List (List D)) (r r' : List AV) : Prop := r.length = r'.length ∧ ∀ i (h1 : i < r.length) (h2 : i < r'.length), ThTo t k sz es r[i] r'[i]
def ThRs (t k sz : Nat) (es : List (List D)) (r r' : List (List AV)) : Prop := r.length = r'.length ∧ ∀ i (h1 : i < r.length) (h2 : i < r'.length), ThR t k sz es r[i] r'[i]
def ThL (t k sz : Nat) (es : List (List D)) : List (Nat × AV) → List (Nat × AV) → Prop
 | [], [] => True
 | (i, x) :: a, (j, y) :: b => i = j ∧ ThTo t k sz es x y ∧ ThL t k sz es a b
 | _, _ => False
def ThB (t k sz : Nat) (es : List (List D)) : List (Nat × List (List AV)) → List (Nat × List (List AV)) → Prop
 | [], [] => True
 | (i, x) :: a, (j, y) :: b => i = j ∧ ThRs t k sz es x y ∧ ThB t k sz es a b
 | _, _ => False
theorem ThL.at {t k sz : Nat} {es : List (List D)} : ∀ {l l' : List (Nat × AV)}, ThL t k sz es l l' → ∀ i, ThTo t k sz es (tl l i) (tl l' i)
 | [], [], _, i => .same
 | (i, x) :: a, (j, y) :: b, h, q => by
  obtain ⟨rfl, h1, h2⟩ := h
  rw [tl_cons, tl_cons]
  split
  ·exact h1
  ·exact ThL.at h2 q
 | [], _ :: _, h, _ => h.elim
 | _ :: _, [], h, _ => h.elim
theorem ThB.at {t k sz : Nat} {es : List (List D)} : ∀ {l l' : List (Nat × List (List AV))}, ThB t k sz es l l' → ∀ i, (lk l i = none ∧ lk l' i = none) ∨ ∃ r r', lk l i = some r ∧ lk l' i = some r' ∧ ThRs t k sz es r r'
 | [], [], _, i => .inl ⟨rfl, rfl⟩
 | (i, x) :: a, (j, y) :: b, h, q => by
  obtain ⟨rfl, h1, h2⟩ := h
  rw [lk_cons, lk_cons]
  split
  ·exact .inr ⟨x, y, rfl, rfl, h1⟩
  ·exact ThB.at h2 q
 | [], _ :: _, h, _ => h.elim
 | _ :: _, [], h, _ => h.elim
theorem ThRs.flat {t k sz : Nat} {es : List (List D)} : ∀ {r r' : List (List AV)}, ThRs t k sz es r r' → ThR t k sz es r.flatten r'.flatten
 | [], [], _ => ⟨rfl, fun i h => by simp at h⟩
 | x :: a, y :: b, h => by
  have h0 := h.2 0 (by simp) (by simp)
  have ih : ThR t k sz es a.flatten b.flatten := ThRs.flat ⟨by simpa using h.1, fun i h1 h2 => h.2 (i + 1) (by simpa using h1) (by simpa using h2)⟩
  simp only [List.getElem_cons_zero] at h0
  refine ⟨by simp [h0.1, ih.1], fun i h1 h2 => ?_⟩
  have hl := h0.1
  have hi2 := ih.1
  simp only [List.flatten_cons] at h1 h2 ⊢
  rw [List.length_append] at h1 h2
  by_cases hi : i < x.length
  ·have e1 : (x ++ a.flatten)[i]'(by rw [List.length_append]; omega) = x[i] := List.getElem_append_left hi
   have e2 : (y ++ b.flatten)[i]'(by rw [List.length_append]; omega) = y[i]'(by omega) := List.getElem_append_left (by omega)
   rw [e1, e2]
   exact h0.2 i hi _
  ·have e1 : (x ++ a.flatten)[i]'(by rw [List.length_append]; omega) = a.flatten[i - x.length]'(by omega) := List.getElem_append_right (by omega)
   have e2 : (y ++ b.flatten)[i]'(by rw [List.length_append]; omega) = b.flatten[i - y.length]'(by omega) := List.getElem_append_right (by omega)
   rw [e1, e2]
   have := ih.2 (i - x.length) (by omega) (by omega)
   simp only [hl] at this ⊢
   exact this
 | [], _ :: _, h => by have := h.1; simp at this
 | _ :: _, [], h => by have := h.1; simp at this
theorem rowsD_flat (es : List (List D)) : (rowsD es).flatten = es.flatten.map AV.d := by
 induction es with
 | nil => rfl
 | cons e es ih => simp only [rowsD, List.map_cons, List.flatten_cons, List.map_append] at ih ⊢; rw [ih]
theorem Trans.thaw {cx : Cx} {nt0 nt : Nat} {l l' : List (Nat × AV)} {out : Bxs} {loc loc' : List (Nat × List (List AV))} {tok : Nat → Bool} (t s sz : Nat) (es : List (List D)) (r : Nat)
  (hn : cx.nb = cx.base + cx.n) (hs : s < cx.n) (hk : lk loc s = none) (ht : tok t = true) (hr : tl l r = .ex t sz es)
  (hl : ThL t (cx.base + s) sz es l l') (hb : ThB t (cx.base + s) sz es loc loc') :
  Trans cx nt0 ⟨tl l, lb cx.base out loc, tok, nt⟩ ⟨tl l', lb cx.base out ((s, rowsD es) :: loc'), upd tok t false, nt⟩ := by
 intro G0 w0 G a w he hn0 hS hL
 have hm := hS.mem
 have hwit := hS.tmps r
 simp only at hwit
 rw [hr] at hwit
 have hex : ∀ {v : Value}, RV G w (.ex t sz es) v → ExR G w t sz es v := fun h => by cases h with | ex h => exact h
 obtain ⟨hlt, x, hx⟩ := hm.toks t ht
 obtain ⟨_, _, hw2⟩ := hex hwit
 obtain ⟨g, cap, cs, e, rfl, _, hcap, hmax, hkind, hheap, hrow, hflat, hrd, hone⟩ := hw2 x hx
 have hboxk : lb cx.base out loc (cx.base + s) = none := by rw [lb_at]; exact hk
 have hbxk : G.bx (cx.base + s) = none := hm.nobox _ hboxk
 let G' : Gh := { bx := upd G.bx (cx.base + s) (some (g, sz)), kind := upd G.kind g .box, tk := upd G.tk t none, nt := G.nt }
 have hnb : ∀ {k b z}, G.bx k = some (b, z) → b ≠ g := fun h e => by
  have := (hm.blt h).2
  rw [e, hkind] at this; cases this
 have hntk : ∀ {q j}, q ≠ t → G.tk q = some (some j) → j ≠ g := fun hq h e => by subst e; exact hq (hm.tinj _ _ _ h hx)
 have hle : Le G w G' w := by
  refine ⟨rfl, rfl, rfl, Nat.le_refl _, fun b _ hb => ⟨?_, rfl⟩, fun b f c hb => ⟨⟨f, Nat.le_refl _, ?_⟩, fun _ _ _ => rfl⟩, fun k x hk => ?_, Nat.le_refl _, fun q _ => ?_, fun _ _ _ _ h => ⟨_, _, h⟩⟩
  ·simp only [G']; rw [upd_other _ _ (fun e => by rw [e, hkind] at hb; cases hb)]; exact hb
  ·simp only [G']; rw [upd_other _ _ (fun e => by rw [e, hkind] at hb; cases hb)]; exact hb
  ·simp only [G']; rw [upd_other _ _ (fun e => by rw [e, hbxk] at hk; cases hk)]; exact hk
  ·by_cases hq : q = t
   ·subst hq; exact .inl (by simp [G', upd_same])
   ·refine .inr ⟨by simp only [G']; exact upd_other _ _ hq, fun j hj => ⟨?_, fun _ => rfl⟩⟩
    simp only [G']; exact upd_other _ _ (hntk hq hj)
 have hto : ∀ {x y : AV} {v : Value}, ThTo t (cx.base + s) sz es x y → RV G w x v → RV G' w y v := by
  intro x y v hxy
  induction hxy generalizing v with
  | bot => exact fun _ => .bot
  | same => exact fun h => h.mono hle
  | ex =>
   intro h
   obtain ⟨_, _, h2⟩ := hex h
   obtain ⟨g', cap', cs', e', hg', hv, hc1, hc2, _⟩ := h2 _ hx
   cases hg'
   rw [hv]
   have := RV.msl (G := G') (w := w) (k := cx.base + s) (off := 0) (n := es.length) (b := g) (sz := sz) (cap := cap') (by simp [G', upd_same]) hc1 hc2
   simpa using this
  | agg hl _ ih =>
   intro h
   cases h with
   | agg hl' hh hone => exact .agg (hl.symm.trans hl') (fun i h1 h2 => ih i (by omega) h1 (hh i (by omega) h2)) hone
 have hRVs : ∀ {xs ys : List AV} {vs : List Value}, ThR t (cx.base + s) sz es xs ys → RVs G w xs vs → RVs G' w ys vs := fun h hr => ⟨h.1.symm.trans hr.1, fun i h1 h2 => hto (h.2 i (by rw [h.1]; exact h1) h1) (hr.2 i _ h2)⟩
 have hlt2 := heap_lt hheap
 refine ⟨G', ⟨hS.defers, hS.size, fun i => hto (hl.at i) (hS.tmps i), ?_⟩, ?_⟩
 ·constructor
  case box =>
   intro k rows b z hk' hb'
   by_cases e1 : k = cx.base + s
   ·subst e1
    simp only [lb_at, lk_cons, ↓reduceIte, Option.some.injEq] at hk'
    simp only [G', upd_same, Option.some.injEq, Prod.mk.injEq] at hb'
    obtain ⟨rfl, rfl⟩ := hb'
    subst hk'
    refine ⟨by simp [G', upd_same], cs, e, hheap, fun q hq => ?_, ?_, hone⟩
    ·obtain ⟨p, hp, rfl⟩ := List.mem_map.1 hq
     simpa using hrow p hp
    ·rw [rowsD_flat]
     refine ⟨by rw [List.length_map]; exact hflat, fun i h1 h2 => ?_⟩
     simp only [List.getElem_map]
     exact .d ((hrd i (by rw [List.length_map] at h1; exact h1) h2).mono hle.cells)
   ·simp only [G'] at hb'
    rw [upd_other _ _ e1] at hb'
    have hold : ∃ rows0, lb cx.base out loc k = some rows0 ∧ (rows0 = rows ∨ ThRs t (cx.base + s) sz es rows0 rows) := by
     by_cases hkb : k < cx.base
     ·refine ⟨rows, ?_, .inl rfl⟩
      simp only at hk'
      rw [lb_out hkb] at hk' ⊢
      exact hk'
     ·have hkk : k = cx.base + (k - cx.base) := by omega
      simp only at hk'
      rw [hkk, lb_at] at hk' ⊢
      rw [lk_cons, if_neg (by omega)] at hk'
      rcases hb.at (k - cx.base) with ⟨_, h2⟩ | ⟨r0, r', h1, h2, h3⟩
      ·rw [h2] at hk'; cases hk'
      ·rw [h2] at hk'
       cases hk'
       exact ⟨r0, h1, .inr h3⟩
    obtain ⟨rows0, h1, h2⟩ := hold
    obtain ⟨g1, cs', e', g2, g3, g4, g5⟩ := hm.box k rows0 b z h1 hb'
    refine ⟨by simp only [G']; rw [upd_other _ _ (hnb hb')]; exact g1, cs', e', g2, ?_, ?_, g5⟩
    ·rcases h2 with rfl | h2
     ·exact g3
     ·intro q hq
      obtain ⟨i, hi, rfl⟩ := List.getElem_of_mem hq
      have hi0 : i < rows0.length := by rw [h2.1]; exact hi
      rw [← (h2.2 i hi0 hi).1]
      exact g3 _ (List.getElem_mem _)
    ·rcases h2 with rfl | h2
     ·exact g4.mono hle
     ·exact hRVs h2.flat g4
  case nobox =>
   intro k hk'
   have hne : k ≠ cx.base + s := fun e => by subst e; simp [lb_at, lk_cons] at hk'
   simp only [G']
   rw [upd_other _ _ hne]
   refine hm.nobox k ?_
   simp only at hk' ⊢
   by_cases hkb : k < cx.base
   ·rw [lb_out hkb] at hk' ⊢; exact hk'
   ·have hkk : k = cx.base + (k - cx.base) := by omega
    rw [hkk, lb_at] at hk' ⊢
    rw [lk_cons, if_neg (by omega)] at hk'
    rcases hb.at (k - cx.base) with ⟨h1, _⟩ | ⟨r0, r', _, h2, _⟩
    ·exact h1
    ·rw [h2] at hk'; cases hk'
  case inj =>
   intro j j' b z z' hj hj'
   simp only [G'] at hj hj'
   by_cases e1 : j = cx.base + s <;> by_cases e2 : j' = cx.base + s
   ·exact e1.trans e2.symm
   ·subst e1
    rw [upd_same] at hj; rw [upd_other _ _ e2] at hj'
    cases hj
    exact absurd rfl (hnb hj')
   ·subst e2
    rw [upd_same] at hj'; rw [upd_other _ _ e1] at hj
    cases hj'
    exact absurd rfl (hnb hj)
   ·rw [upd_other _ _ e1] at hj; rw [upd_other _ _ e2] at hj'
    exact hm.inj j j' b z z' hj hj'
  case nb =>
   intro k hk'
   have h0 := hm.nb k hk'
   simp only at h0 ⊢
   have hkb : ¬ k < cx.base := by simp only at hk'; omega
   have hkk : k = cx.base + (k - cx.base) := by omega
   rw [hkk, lb_at] at h0 ⊢
   rw [lk_cons, if_neg (by simp only at hk'; omega)]
   rcases hb.at (k - cx.base) with ⟨_, h2⟩ | ⟨r0, r', h1, _, _⟩
   ·exact h2
   ·rw [h1] at h0; cases h0
  case nt => exact hm.nt
  case toks =>
   intro q hq
   simp only at hq
   by_cases e1 : q = t
   ·subst e1; simp [upd_same] at hq
   ·rw [upd_other _ _ e1] at hq
    obtain ⟨h1, y, h2⟩ := hm.toks q hq
    exact ⟨h1, y, by simp only [G']; rw [upd_other _ _ e1]; exact h2⟩
  case tokb =>
   intro q j hq
   simp only [G'] at hq
   by_cases e1 : q = t
   ·subst e1; simp [upd_same] at hq
   ·rw [upd_other _ _ e1] at hq
    obtain ⟨f, cur, e', g1, g2⟩ := hm.tokb q j hq
    refine ⟨f, cur, e', ?_, g2⟩
    simp only [G']
    rw [upd_other _ _ (hntk e1 hq)]
    exact g1
  case tinj =>
   intro q q' j hq hq'
   simp only [G'] at hq hq'
   by_cases e1 : q = t
   ·subst e1; simp [upd_same] at hq
   ·by_cases e2 : q' = t
    ·subst e2; simp [upd_same] at hq'
    ·rw [upd_other _ _ e1] at hq; rw [upd_other _ _ e2] at hq'
     exact hm.tinj q q' j hq hq'
  case tnt =>
   intro q y hq
   simp only [G'] at hq ⊢
   by_cases e1 : q = t
   ·subst e1; simp [upd_same] at hq
   ·rw [upd_other _ _ e1] at hq
    exact hm.tnt q y hq
  case fresh =>
   intro b hb'
   simp only [G']
   rw [upd_other _ _ (by omega)]
   exact hm.fresh b hb'
 ·refine hL.step ⟨hle, fun k hkb hg => ⟨?_, ?_⟩⟩
  ·simp only [G']; rw [upd_other _ _ (by omega)]; exact hg
  ·simp only; rw [lb_out hkb, lb_out hkb]
inductive SeTo (t k sz : Nat) (es : List (List D)) : AV → AV → Prop
 | bot {x} : SeTo t k sz es x .bot
 | same {x} (h : OkIn (· ≠ k) (fun _ => True) x) : SeTo t k sz es x x
 | msl : SeTo t k sz es (.msl k 0 es.length sz) (.ex t sz es)
 | agg {cs ds : List AV} (hl : cs.length = ds.length) (h : ∀ i (h1 : i < cs.length) (h2 : i < ds.length), SeTo t k sz es cs[i] ds[i]) : SeTo t k sz es (.agg cs) (.agg ds)
def SeR (t k sz : Nat) (es : List (List D)) (r r' : List AV) : Prop := r.length = r'.length ∧ ∀ i (h1 : i < r.length) (h2 : i < r'.length), SeTo t k sz es r[i] r'[i]
def SeRs (t k sz : Nat) (es : List (List D)) (r r' : List (List AV)) : Prop := r.length = r'.length ∧ ∀ i (h1 : i < r.length) (h2 : i < r'.length), SeR t k sz es r[i] r'[i]
def SeL (t k sz : Nat) (es : List (List D)) : List (Nat × AV) → List (Nat × AV) → Prop
 | [], [] => True
 | (i, x) :: a, (j, y) :: b => i = j ∧ SeTo t k sz es x y ∧ SeL t k sz es a b
 | _, _ => False
def SeB (t k sz : Nat) (es : List (List D)) : List (Nat × List (List AV)) → List (Nat × List (List AV)) → Prop
 | [], [] => True
 | (i, x) :: a, (j, y) :: b => i = j ∧ SeRs t k sz es x y ∧ SeB t k sz es a b
 | _, _ => False
theorem SeL.at {t k sz : Nat} {es : List (List D)} : ∀ {l l' : List (Nat × AV)}, SeL t k sz es l l' → ∀ i, SeTo t k sz es (tl l i) (tl l' i)
 | [], [], _, i => .bot
 | (i, x) :: a, (j, y) :: b, h, q => by
  obtain ⟨rfl, h1, h2⟩ := h
  rw [tl_cons, tl_cons]
  split
  ·exact h1
  ·exact SeL.at h2 q
 | [], _ :: _, h, _ => h.elim
 | _ :: _, [], h, _ => h.elim
theorem SeB.at {t k sz : Nat} {es : List (List D)} : ∀ {l l' : List (Nat × List (List AV))}, SeB t k sz es l l' → ∀ i, (lk l i = none ∧ lk l' i = none) ∨ ∃ r r', lk l i = some r ∧ lk l' i = some r' ∧ SeRs t k sz es r r'
 | [], [], _, i => .inl ⟨rfl, rfl⟩
 | (i, x) :: a, (j, y) :: b, h, q => by
  obtain ⟨rfl, h1, h2⟩ := h
  rw [lk_cons, lk_cons]
  split
  ·exact .inr ⟨x, y, rfl, rfl, h1⟩
  ·exact SeB.at h2 q
 | [], _ :: _, h, _ => h.elim
 | _ :: _, [], h, _ => h.elim
theorem SeRs.flat {t k sz : Nat} {es : List (List D)} : ∀ {r r' : List (List AV)}, SeRs t k sz es r r' → SeR t k sz es r.flatten r'.flatten
 | [], [], _ => ⟨rfl, fun i h => by simp at h⟩
 | x :: a, y :: b, h => by
  have h0 := h.2 0 (by simp) (by simp)
  have ih : SeR t k sz es a.flatten b.flatten := SeRs.flat ⟨by simpa using h.1, fun i h1 h2 => h.2 (i + 1) (by simpa using h1) (by simpa using h2)⟩
  simp only [List.getElem_cons_zero] at h0
  refine ⟨by simp [h0.1, ih.1], fun i h1 h2 => ?_⟩
  have hl := h0.1
  have hi2 := ih.1
  simp only [List.flatten_cons] at h1 h2 ⊢
  rw [List.length_append] at h1 h2
  by_cases hi : i < x.length
  ·have e1 : (x ++ a.flatten)[i]'(by rw [List.length_append]; omega) = x[i] := List.getElem_append_left hi
   have e2 : (y ++ b.flatten)[i]'(by rw [List.length_append]; omega) = y[i]'(by omega) := List.getElem_append_left (by omega)
   rw [e1, e2]
   exact h0.2 i hi _
  ·have e1 : (x ++ a.flatten)[i]'(by rw [List.length_append]; omega) = a.flatten[i - x.length]'(by omega) := List.getElem_append_right (by omega)
   have e2 : (y ++ b.flatten)[i]'(by rw [List.length_append]; omega) = b.flatten[i - y.length]'(by omega) := List.getElem_append_right (by omega)
   rw [e1, e2]
   have := ih.2 (i - x.length) (by omega) (by omega)
   simp only [hl] at this ⊢
   exact this
 | [], _ :: _, h => by have := h.1; simp at this
 | _ :: _, [], h => by have := h.1; simp at this
theorem Trans.seal {cx : Cx} {nt0 nt : Nat} {l l' : List (Nat × AV)} {out : Bxs} {loc loc' : List (Nat × List (List AV))} {tok : Nat → Bool} (s sz : Nat) (es : List (List D)) (r : Nat)
  (ho : out = cx.B0) (hnt : nt0 ≤ nt) (hsz : ∀ e ∈ es, e.length = sz) (hr : tl l r = .msl (cx.base + s) 0 es.length sz) (hk' : lk loc' s = none)
  (hl : SeL nt (cx.base + s) sz es l l') (hb : SeB nt (cx.base + s) sz es loc loc') :
  Trans cx nt0 ⟨tl l, lb cx.base out ((s, rowsD es) :: loc), tok, nt⟩ ⟨tl l', lb cx.base out loc', upd tok nt true, nt + 1⟩ := by
 intro G0 w0 G a w he hn0 hS hL
 have hm := hS.mem
 have hgnt : G.nt = nt := hm.nt
 have hwit := hS.tmps r
 simp only at hwit
 rw [hr] at hwit
 obtain ⟨b, hbk⟩ : ∃ b, G.bx (cx.base + s) = some (b, sz) := by
  generalize hq : (AV.msl (cx.base + s) 0 es.length sz) = q at hwit
  generalize a.tmps.getD r undef = v0 at hwit
  cases hwit with
  | msl h1 h2 h3 => cases hq; exact ⟨_, h1⟩
  | _ => cases hq
 have hboxk : lb cx.base out ((s, rowsD es) :: loc) (cx.base + s) = some (rowsD es) := by rw [lb_at, lk_cons, if_pos rfl]
 obtain ⟨hkind, cs, e, hheap, hrows, hR, hone⟩ := hm.box _ _ b sz hboxk hbk
 let G1 : Gh := { bx := G.bx, kind := upd G.kind b .ex, tk := upd G.tk G.nt (some (some b)), nt := G.nt + 1 }
 let G' : Gh := { bx := upd G.bx (cx.base + s) none, kind := upd G.kind b .ex, tk := upd G.tk G.nt (some (some b)), nt := G.nt + 1 }
 have hne : ∀ {q j}, G.tk q = some (some j) → j ≠ b := fun h e => by
  obtain ⟨f, cur, e', h1, _⟩ := hm.tokb _ _ h
  rw [e, hkind] at h1; rcases h1 with h1 | h1 <;> cases h1
 have hle : Le G w G1 w := by
  refine ⟨rfl, rfl, rfl, Nat.le_refl _, fun b' _ hb' => ⟨?_, rfl⟩, fun b' f c hb' => ⟨⟨f, Nat.le_refl _, ?_⟩, fun _ _ _ => rfl⟩, fun k x hk => hk, Nat.le_succ _, fun q hq => ?_, fun _ _ _ _ h => ⟨_, _, h⟩⟩
  ·simp only [G1]; rw [upd_other _ _ (fun e => by rw [e, hkind] at hb'; cases hb')]; exact hb'
  ·simp only [G1]; rw [upd_other _ _ (fun e => by rw [e, hkind] at hb'; cases hb')]; exact hb'
  ·refine .inr ⟨by simp only [G1]; exact upd_other _ _ (by omega), fun j hj => ⟨?_, fun _ => rfl⟩⟩
   simp only [G1]; exact upd_other _ _ (hne hj)
 have hcells : ∀ (q : Addr) (u : Value), G.ps q → w.cell? q = some u → G'.ps q ∧ w.cell? q = some u := fun q u h1 h2 => hle.cells q u h1 h2
 -- what does not speak of the box
 have hok : ∀ {x : AV} {v : Value}, OkIn (· ≠ cx.base + s) (fun _ => True) x → RV G w x v → RV G' w x v := by
  intro x v hx h
  have h1 := h.mono hle
  clear h
  induction h1 with
  | bot => exact .bot
  | d h2 => exact .d h2
  | osl h2 h3 => exact .osl h2 h3
  | ptr h2 => cases hx with | ptr hp => exact .ptr (by simp only [G']; rw [upd_other _ _ hp]; exact h2)
  | buf h2 h3 h4 h5 => exact .buf h2 h3 h4 h5
  | here h2 h3 => cases hx with | here hp => exact .here (by simp only [G']; rw [upd_other _ _ hp]; exact h2) h3
  | cptr q u hc hr => exact .cptr q u hc hr
  | msl h2 h3 h4 => cases hx with | msl hp => exact .msl (by simp only [G']; rw [upd_other _ _ hp]; exact h2) h3 h4
  | fn hl _ ih => cases hx with | fn hp => exact .fn hl fun i h1 h2 => ih i h1 h2 (hp _ (List.getElem_mem h1))
  | agg hl _ hone ih => cases hx with | agg hp => exact .agg hl (fun i h1 h2 => ih i h1 h2 (hp _ (List.getElem_mem h1))) hone
  | tup hl _ ih => cases hx with | tup hp => exact .tup hl fun i h1 h2 => ih i h1 h2 (hp _ (List.getElem_mem h1))
  | ex h2 => exact .ex h2
 have hto : ∀ {x y : AV} {v : Value}, SeTo nt (cx.base + s) sz es x y → RV G w x v → RV G' w y v := by
  intro x y v hxy
  induction hxy generalizing v with
  | bot => exact fun _ => .bot
  | same h => exact hok h
  | msl =>
   intro h
   generalize hq : (AV.msl (cx.base + s) 0 es.length sz) = q at h
   cases h with
   | msl h1 h2 h3 =>
    cases hq
    rw [hbk] at h1
    cases h1
    refine .ex ⟨by simp only [G']; omega, ⟨_, _, _, rfl⟩, fun x hx => ?_⟩
    simp only [G', ← hgnt, upd_same, Option.some.injEq] at hx
    subst hx
    rw [rowsD_flat] at hR
    have hlen : es.flatten.length = cs.toList.length := by have := hR.1; rw [List.length_map] at this; exact this
    refine ⟨b, _, cs, e, rfl, by simp, h2, h3, by simp [G', upd_same], hheap, hsz, hlen, fun i g1 g2 => ?_, hone⟩
    have h5 := hR.2 i (by rw [List.length_map]; exact g1) g2
    simp only [List.getElem_map] at h5
    cases h5 with
    | d h6 => exact h6.mono hcells
   | _ => cases hq
  | agg hl _ ih =>
   intro h
   cases h with
   | agg hl' hh hone => exact .agg (hl.symm.trans hl') (fun i h1 h2 => ih i (by omega) h1 (hh i (by omega) h2)) hone
 have hRVs : ∀ {xs ys : List AV} {vs : List Value}, SeR nt (cx.base + s) sz es xs ys → RVs G w xs vs → RVs G' w ys vs := fun h hr => ⟨h.1.symm.trans hr.1, fun i h1 h2 => hto (h.2 i (by rw [h.1]; exact h1) h1) (hr.2 i _ h2)⟩
 refine ⟨G', ⟨hS.defers, hS.size, fun i => hto (hl.at i) (hS.tmps i), ?_⟩, ?_, ?_⟩
 ·constructor
  case box =>
   intro k rows b' z hk hb'
   have e1 : k ≠ cx.base + s := fun e => by
    subst e
    simp only at hk
    rw [lb_at, hk'] at hk; cases hk
   simp only [G'] at hb'
   rw [upd_other _ _ e1] at hb'
   have hbne : b' ≠ b := fun e => by subst e; exact e1 (hm.inj _ _ _ _ _ hb' hbk)
   by_cases hkb : k < cx.base
   ·simp only at hk
    rw [lb_out hkb] at hk
    obtain ⟨g1, cs', e', g2, g3, g4, g5⟩ := hm.box k rows b' z (by simp only; rw [lb_out hkb]; exact hk) hb'
    refine ⟨by simp only [G']; rw [upd_other _ _ hbne]; exact g1, cs', e', g2, g3, ⟨g4.1, fun i h1 h2 => ?_⟩, g5⟩
    have hmem : rows.flatten[i] ∈ rows.flatten := List.getElem_mem _
    obtain ⟨q, hq, hxq⟩ := List.mem_flatten.1 hmem
    have hG0 : G0.bx k ≠ none := by rw [← hL.1.bx k hkb, hb']; simp
    have := he k rows hkb (by rw [← ho]; exact hk) hG0 q hq _ hxq
    exact hok (this.imp (fun j hj => by omega) fun _ _ => trivial) (g4.2 i h1 h2)
   ·have hkk : k = cx.base + (k - cx.base) := by omega
    simp only at hk
    rw [hkk, lb_at] at hk
    rcases hb.at (k - cx.base) with ⟨_, h2⟩ | ⟨r0, r', h1, h2, h3⟩
    ·rw [h2] at hk; cases hk
    ·rw [h2] at hk
     cases hk
     obtain ⟨g1, cs', e', g2, g3, g4, g5⟩ := hm.box k r0 b' z (by simp only; rw [hkk, lb_at, lk_cons, if_neg (by omega)]; exact h1) hb'
     refine ⟨by simp only [G']; rw [upd_other _ _ hbne]; exact g1, cs', e', g2, fun q hq => ?_, hRVs h3.flat g4, g5⟩
     obtain ⟨i, hi, rfl⟩ := List.getElem_of_mem hq
     have hi0 : i < r0.length := by rw [h3.1]; exact hi
     rw [← (h3.2 i hi0 hi).1]
     exact g3 _ (List.getElem_mem _)
  case nobox =>
   intro k hk
   simp only [G']
   by_cases e1 : k = cx.base + s
   ·subst e1; simp [upd_same]
   ·rw [upd_other _ _ e1]
    refine hm.nobox k ?_
    simp only at hk ⊢
    by_cases hkb : k < cx.base
    ·rw [lb_out hkb] at hk ⊢; exact hk
    ·have hkk : k = cx.base + (k - cx.base) := by omega
     rw [hkk, lb_at] at hk ⊢
     rw [lk_cons, if_neg (by omega)]
     rcases hb.at (k - cx.base) with ⟨h1, _⟩ | ⟨r0, r', _, h2, _⟩
     ·exact h1
     ·rw [h2] at hk; cases hk
  case inj =>
   intro j j' b' z z' hj hj'
   simp only [G'] at hj hj'
   by_cases e1 : j = cx.base + s
   ·subst e1; simp [upd_same] at hj
   ·by_cases e2 : j' = cx.base + s
    ·subst e2; simp [upd_same] at hj'
    ·rw [upd_other _ _ e1] at hj; rw [upd_other _ _ e2] at hj'
     exact hm.inj j j' b' z z' hj hj'
  case nb =>
   intro k hk
   have h0 := hm.nb k hk
   simp only at h0 ⊢
   by_cases hkb : k < cx.base
   ·rw [lb_out hkb] at h0 ⊢; exact h0
   ·have hkk : k = cx.base + (k - cx.base) := by omega
    rw [hkk, lb_at] at h0 ⊢
    by_cases e1 : k - cx.base = s
    ·rw [e1]; exact hk'
    ·rw [lk_cons, if_neg e1] at h0
     rcases hb.at (k - cx.base) with ⟨_, h2⟩ | ⟨r0, r', h1, _, _⟩
     ·exact h2
     ·rw [h1] at h0; cases h0
  case nt => simp only [G']; rw [hgnt]
  case toks =>
   intro q hq
   simp only at hq
   by_cases e1 : q = nt
   ·subst e1
    exact ⟨Nat.lt_succ_self _, _, by simp only [G']; rw [hgnt, upd_same]⟩
   ·rw [upd_other _ _ e1] at hq
    obtain ⟨h1, y, h2⟩ := hm.toks q hq
    exact ⟨Nat.lt_succ_of_lt h1, y, by simp only [G']; rw [hgnt, upd_other _ _ e1]; exact h2⟩
  case tokb =>
   intro q j hq
   simp only [G'] at hq
   by_cases e1 : q = G.nt
   ·subst e1
    rw [upd_same] at hq
    cases hq
    exact ⟨0, cs, e, .inr (by simp [G', upd_same]), hheap⟩
   ·rw [upd_other _ _ e1] at hq
    obtain ⟨f, cur, e', g1, g2⟩ := hm.tokb q j hq
    refine ⟨f, cur, e', ?_, g2⟩
    simp only [G']
    rw [upd_other _ _ (hne hq)]
    exact g1
  case tinj =>
   intro q q' j hq hq'
   simp only [G'] at hq hq'
   by_cases e1 : q = G.nt <;> by_cases e2 : q' = G.nt
   ·exact e1.trans e2.symm
   ·subst e1
    rw [upd_same] at hq; rw [upd_other _ _ e2] at hq'
    cases hq
    exact absurd rfl (hne hq')
   ·subst e2
    rw [upd_same] at hq'; rw [upd_other _ _ e1] at hq
    cases hq'
    exact absurd rfl (hne hq)
   ·rw [upd_other _ _ e1] at hq; rw [upd_other _ _ e2] at hq'
    exact hm.tinj q q' j hq hq'
  case tnt =>
   intro q y hq
   simp only [G'] at hq ⊢
   by_cases e1 : q = G.nt
   ·omega
   ·rw [upd_other _ _ e1] at hq
    have := hm.tnt q y hq
    omega
  case fresh =>
   intro b' hb'
   have := heap_lt hheap
   simp only [G']
   rw [upd_other _ _ (by omega)]
   exact hm.fresh b' hb'
 ·refine hL.1.trans ⟨rfl, rfl, rfl, Nat.le_refl _, hle.whole, hle.part, fun k hk => ?_, hle.nt, hle.tk, hle.ty⟩
  simp only [G']
  exact upd_other _ _ (by omega)
 ·intro k hkb hg
  have := hL.2 k hkb hg
  simp only at this ⊢
  rw [lb_out hkb] at this ⊢
  exact this
section
variable {t k sz : Nat} {es : List (List D)}
@[simp] theorem thTo_bot (x : AV) : ThTo t k sz es x .bot := .bot
@[simp] theorem thTo_same (x : AV) : ThTo t k sz es x x := .same
@[simp] theorem thTo_ex {n : Nat} : ThTo t k sz es (.ex t sz es) (.msl k 0 n sz) ↔ n = es.length := ⟨fun h => by cases h; rfl, fun h => by subst h; exact .ex⟩
@[simp] theorem seTo_bot (x : AV) : SeTo t k sz es x .bot := .bot
@[simp] theorem seTo_d (x : D) : SeTo t k sz es (.d x) (.d x) := .same .d
@[simp] theorem seTo_osl (n : Nat) (xs : List (List D)) (o : Own) : SeTo t k sz es (.osl n xs o) (.osl n xs o) := .same (.osl fun _ _ => trivial)
@[simp] theorem seTo_msl : SeTo t k sz es (.msl k 0 es.length sz) (.ex t sz es) := .msl
end
@[simp] theorem to_ex {p : Nat → Prop} {fz : Option (Nat × Nat × List (List D))} (t sz : Nat) (es : List (List D)) : To p (fun _ => True) fz (.ex t sz es) (.ex t sz es) := .same (.ex trivial)
@[simp] theorem okIn_ex {p q : Nat → Prop} {t sz : Nat} {es : List (List D)} : OkIn p q (.ex t sz es) ↔ q t := ⟨fun h => by cases h; assumption, .ex⟩
theorem TK.more {mtok : Nat → Bool} {nt0 : Nat} {tok : Nat → Bool} {nt : Nat} {os : List Own} (h : TK mtok nt0 tok nt os) (q : Nat) : TK mtok nt0 (upd tok (nt + q) true) (nt + q + 1) (.tok (nt + q) :: os) := by
 have hle := h.le
 refine ⟨fun t ht => ?_, h.lt, by omega, fun o ho t e => ?_, List.pairwise_cons.2 ⟨fun o ho t e e' => ?_, h.ne⟩⟩
 ·have := h.lt t ht
  rw [upd_other _ _ (by omega)]
  exact h.old t ht
 ·rcases List.mem_cons.1 ho with rfl | ho
  ·cases e
   exact ⟨upd_same _ _ _, by omega, by omega⟩
  ·obtain ⟨h1, h2, h3⟩ := h.own o ho t e
   exact ⟨by rw [upd_other _ _ (by omega)]; exact h1, h2, by omega⟩
 ·cases e
  have := (h.own o ho _ e').2.2
  omega
end Go.AM
namespace Go.AM
open Go Go.Proofs
abbrev U (n : Int) : AV := .d (.raw (.int .u64 n))
theorem u64_in {n : Int} (h0 : 0 ≤ n) (h1 : n ≤ 18446744073709551615) : IntKind.u64.wrap n = n := by
 exact IntWalk.u64_in n ⟨h0, h1⟩
theorem and32 {x : Nat} (h : x ≤ 1000000) : IntKind.u64.wrap ↑(x % 2 ^ IntKind.u64.bits &&& 4294967295 % 2 ^ IntKind.u64.bits) = x := by
 have e1 : x % 2 ^ IntKind.u64.bits = x := Nat.mod_eq_of_lt (by show x < 2 ^ 64; omega)
 have e2 : 4294967295 % 2 ^ IntKind.u64.bits = 2 ^ 32 - 1 := by decide
 rw [e1, e2, Nat.and_two_pow_sub_one_eq_mod, Nat.mod_eq_of_lt (by omega)]
 exact u64_in (by omega) (by omega)
theorem shr32 {x : Nat} (h : x ≤ 1000000) : (x : Int).fdiv (2 ^ min 32 IntKind.u64.bits) = 0 := by
 have e : (2 : Int) ^ min 32 IntKind.u64.bits = 4294967296 := by decide
 rw [e, Int.fdiv_eq_ediv_of_nonneg _ (by omega)]
 omega
theorem mul98_c (x y : Nat) (hx : x ≤ 1000000) (hy : y ≤ 1000000) (hxy : x * y ≤ 1000000) (tok : Tks) (nt : Nat) : DCall Tryz.prog 269 [U x, U y] tok nt (.tup [U 0, U (x * y : Nat)]) tok nt := by
 intro box nb
 have z0 : IntKind.u64.wrap 0 = 0 := u64_in (by omega) (by omega)
 have w0 : IntKind.u64.wrap ((x : Int) * y) = ((x * y : Nat) : Int) := by
  have : (x : Int) * y = ((x * y : Nat) : Int) := by simp
  rw [this]; exact u64_in (by omega) (by omega)
 have sx := shr32 hxy
 generalize x * y = p at *
 refine sB Tryz.func269 Tryz.ntmps269 ?_
 intro hbox htok
 simp only at hbox htok
 apply AL.start
 refine sR ?_
 simp
 refine sR ?_
 simp [and32 hx]
 refine sR ?_
 simp [shr32 hx]
 refine sR ?_
 simp [and32 hy]
 refine sR ?_
 simp [shr32 hy]
 refine sR ?_
 simp [w0]
 refine sR ?_
 simp [sx, z0]
 refine sR ?_
 simp [z0]
 refine sR ?_
 simp [z0]
 refine sR ?_
 simp [w0, sx, z0]
 refine sR ?_
 simp [z0]
 refine sR ?_
 simp [w0]
 refine sT ?_
 try simp only [AU]
 refine ⟨by simp, sF hbox htok (fun _ h => h) (Nat.le_refl _) ?_⟩
 simp [packA]
theorem mul92_c (x y : Nat) (hx : x ≤ 1000000) (hy : y ≤ 1000000) (hxy : x * y ≤ 1000000) (tok : Tks) (nt : Nat) : DCall Tryz.prog 244 [U x, U y] tok nt (.tup [U 0, U (x * y : Nat)]) tok nt := by
 intro box nb
 have c98 := fun tok nt => mul98_c x y hx hy hxy tok nt
 have wx : IntKind.u64.wrap (x : Int) = x := u64_in (by omega) (by omega)
 have wy : IntKind.u64.wrap (y : Int) = y := u64_in (by omega) (by omega)
 have wp : IntKind.u64.wrap ((x * y : Nat) : Int) = ((x * y : Nat) : Int) := u64_in (by omega) (by omega)
 have z0 : IntKind.u64.wrap 0 = 0 := u64_in (by omega) (by omega)
 generalize x * y = p at *
 refine sB Tryz.func244 Tryz.ntmps244 ?_
 intro hbox htok
 simp only at hbox htok
 apply AL.start
 refine sR ?_
 simp
 refine sC ?_
 simp
 refine sR ?_
 simp [wx, wy]
 refine Stop.of_d (c98 _ _) ?_
 simp [wx, wy, z0, wp]
 refine sR ?_
 simp [z0, wp]
 refine sT ?_
 try simp only [AU]
 refine ⟨by simp, sF hbox htok (fun _ h => h) (Nat.le_refl _) ?_⟩
 simp [packA]
def repK (v : Int) (n : Nat) (i : Nat) : List Int := List.replicate i v ++ List.replicate (n - i) 0
theorem repK_len (v : Int) {n i : Nat} (h : i ≤ n) : (repK v n i).length = n := by simp [repK]; omega
theorem rowsI_append (a b : List Int) : rowsI (a ++ b) = rowsI a ++ rowsI b := by simp [rowsI]
theorem rowsI_rep (v : Int) (n : Nat) : rowsI (List.replicate n v) = List.replicate n [AV.d (.raw (.int .i64 v))] := by simp [rowsI]
@[simp] theorem rowsI_tail (l : List Int) : (rowsI l).tail = rowsI l.tail := by simp [rowsI]
theorem repK_one (v : Int) {n : Nat} (h : 0 < n) : rowsI (repK v n 1) = [AV.d (.raw (.int .i64 v))] :: List.drop 1 (rowsI (List.replicate n 0)) := by
 simp only [repK, rowsI_append, rowsI_rep, List.drop_replicate]
 rfl
theorem repK_more (v : Int) {n i m : Nat} (h1 : i + m ≤ n) (h2 : m ≤ i) : rowsI (repK v n (i + m)) = List.take i (rowsI (repK v n i)) ++ (List.take m (List.take i (rowsI (repK v n i))) ++ List.drop (i + m) (rowsI (repK v n i))) := by
 have e1 : List.take i (rowsI (repK v n i)) = List.replicate i [AV.d (.raw (.int .i64 v))] := by
  simp only [repK, rowsI_append, rowsI_rep]
  rw [List.take_append_of_le_length (by simp), List.take_of_length_le (by simp)]
 have e2 : List.drop (i + m) (rowsI (repK v n i)) = List.replicate (n - (i + m)) [AV.d (.raw (.int .i64 0))] := by
  simp only [repK, rowsI_append, rowsI_rep]
  rw [List.drop_append, List.drop_eq_nil_of_le (by simp), List.drop_replicate, List.nil_append]
  congr 1
  simp only [List.length_replicate]
  omega
 rw [e1, e2, List.take_replicate, Nat.min_eq_left h2]
 simp only [repK, rowsI_append, rowsI_rep, ← List.append_assoc, List.replicate_append_replicate]
theorem repK_all (v : Int) (n : Nat) : repK v n n = List.replicate n v := by simp [repK]
def stRep (v : Int) (n : Nat) (nb : Nat) (box : Bxs) (tok : Tks) (nt : Nat) (i : Nat) : AState :=
 ⟨tl [(7, .msl (nb + 30) 0 n 1), (8, I i)], lb nb box [(30, rowsI (repK v n i))], tok, nt⟩
theorem repeat85_c (v : Int) (n : Nat) (hn : n ≤ 1000000) (tok : Tks) (nt : Nat) : DCall Tryz.prog 207 [.d (ints [v]), I n] tok nt (.ex nt 1 (rI (List.replicate n v))) (upd tok nt true) (nt + 1) := by
 intro box nb
 have c92 := fun tok nt => mul92_c 1 n (by omega) hn (by omega) tok nt
 have wn : IntKind.u64.wrap (n : Int) = n := u64_in (by omega) (by omega)
 have w1 : IntKind.u64.wrap 1 = 1 := u64_in (by omega) (by omega)
 have wi : IntKind.i64.wrap (n : Int) = n := wrap_in (by omega) (by omega)
 have hneg : ¬ (n : Int) < 0 := by omega
 have hbig : ¬ (9223372036854775807 : Int) < n := by omega
 simp only [Nat.one_mul, Int.natCast_one] at c92
 refine sB Tryz.func207 Tryz.ntmps207 ?_
 intro hbox htok
 simp only at hbox htok
 apply AL.start
 refine sR ?_
 simp
 refine sR ?_
 simp
 refine sC ?_
 simp [hneg]
 refine sR ?_
 simp [wn, w1]
 refine Stop.of_d (c92 _ _) ?_
 simp
 refine sR ?_
 simp [hbig]
 refine sC ?_
 simp
 refine sR ?_
 simp [wi]
 refine ⟨by omega, ?_⟩
 have fin : ∀ S, S.tmps = tl [(7, .msl (nb + 30) 0 n 1)] → S.box = lb nb box [(30, rowsI (List.replicate n v))] → S.tok = tok → S.nt = nt → Trans ⟨nb, nb + 48, 48, box⟩ nt S ⟨tl [(7, .ex nt 1 (rI (List.replicate n v)))], lb nb box [], upd tok nt true, nt + 1⟩ := by
  rintro ⟨t, b, k, m⟩ h1 h2 h3 h4
  simp only at h1 h2 h3 h4
  subst h1; subst h2; subst h3; subst h4
  rw [rowsI_eq]
  exact Trans.seal (cx := ⟨nb, nb + 48, 48, box⟩) 30 1 (rI (List.replicate n v)) 7 rfl (Nat.le_refl _) (by simp) (by simp) rfl ⟨rfl, by
   have : n = (rI (List.replicate n v)).length := by simp
   conv => lhs; rw [this]
   exact .msl, trivial⟩ trivial
 by_cases h0 : n = 0
 ·subst h0
  refine sR ?_
  simp
  refine sN ?_
  refine AL.loopT (stRep v 0 nb box tok nt) (fun i => i = 0) (fun i => 0) 0 rfl (Weaks.mk (Nat.le_refl _) rfl (by simp [ToL]) (by simp [BoxL, lk, repK])) ?_
  rintro i S hi hS
  subst hi
  simp only [stRep] at hS
  subst hS
  refine sR ?_
  simp
  refine sC ?_
  simp
  refine sX ?_
  simp only [AU, ↓reduceIte]
  refine AL.weak (Weaks.mk (l' := [(7, .msl (nb + 30) 0 0 1)]) (loc' := [(30, rowsI (List.replicate 0 v))]) (Nat.le_refl _) rfl (by simp [ToL, lk]) (by simp [BoxL, lk, repK])) ?_
  refine AL.trans (fin _ rfl rfl rfl rfl) ?_
  refine sR ?_
  simp
  refine sT ?_
  try simp only [AU]
  refine ⟨by simp, Fin.own (by simp [resAs, resA]; rfl) hbox rfl (Nat.le_succ _) ?_⟩
  simp [packA]
 ·have hm1 : min 1 n = 1 := by omega
  refine sR ?_
  simp [hm1]
  refine sN ?_
  refine AL.loopT (stRep v n nb box tok nt) (fun i => 0 < i ∧ i ≤ n) (fun i => n - i) 1 ⟨by omega, by omega⟩ (Weaks.mk (Nat.le_refl _) rfl (by simp [ToL]) (by simp [BoxL, lk, repK_one v (Nat.pos_of_ne_zero h0)])) ?_
  rintro i S ⟨hi0, hi⟩ hS
  simp only [stRep] at hS
  subst hS
  have hlen := repK_len v hi
  refine sR ?_
  simp
  refine sC ?_
  simp
  refine ⟨fun hlt => ?_, fun hge => ?_⟩
  ·have hmin : min i (n - i) ≤ i := Nat.min_le_left _ _
   have hmin2 : i + min i (n - i) ≤ n := by omega
   have hmp : 0 < min i (n - i) := by omega
   have hR := repK_more v hmin2 hmin
   have hwa : IntKind.i64.wrap ((i : Int) + (min i (n - i) : Nat)) = ((i + min i (n - i) : Nat) : Int) := by rw [wrap_in (by omega) (by omega)]; rfl
   refine sR ?_
   simp [hlen]
   refine ⟨⟨by omega, by omega⟩, by omega, ⟨by omega, by omega⟩, ?_⟩
   generalize min i (n - i) = m at *
   rw [hwa]
   refine sE ?_
   refine ⟨i + m, ⟨by omega, hmin2⟩, by omega, Weaks.mk (Nat.le_refl _) rfl (by simp [ToL, lk]) (by simp [BoxL, lk, ← hR])⟩
  ·refine sX ?_
   simp only [AU, ↓reduceIte]
   have : i = n := by omega
   subst this
   rw [repK_all]
   refine AL.weak (Weaks.mk (l' := [(7, .msl (nb + 30) 0 i 1)]) (loc' := [(30, rowsI (List.replicate i v))]) (Nat.le_refl _) rfl (by simp [ToL, lk]) (by simp [BoxL, lk])) ?_
   refine AL.trans (fin _ rfl rfl rfl rfl) ?_
   refine sR ?_
   simp
   refine sT ?_
   try simp only [AU]
   refine ⟨by simp, Fin.own (by simp [resAs, resA]; rfl) hbox rfl (Nat.le_succ _) ?_⟩
   simp [packA]
end Go.AM
namespace Go.AM
open Go Go.Proofs
structure Sl where
 a : Int
 b : Int
 c : Int
 d : Int
 deriving DecidableEq, Inhabited
structure Te where
 k : Int
 a : Int
 b : Int
 c : Int
 d : Int
 deriving DecidableEq, Inhabited
abbrev Sl.cells (s : Sl) : List D := [.raw (.int .i64 s.a), .raw (.int .i64 s.b), .raw (.int .i64 s.c), .raw (.int .i64 s.d)]
abbrev Te.cells (t : Te) : List D := [.raw (.int .i64 t.k), .raw (.int .i64 t.a), .raw (.int .i64 t.b), .raw (.int .i64 t.c), .raw (.int .i64 t.d)]
abbrev slots (l : List Sl) : D := .sl 4 (l.map Sl.cells)
abbrev tests (l : List Te) : D := .sl 5 (l.map Te.cells)
inductive Cd where
 | mk (kind : Int) (kids : List Cd) (m : Mo) (g : Gr) (sl : List Sl) (vars : Int) (te : List Te)
def Cd.kind : Cd → Int | .mk k _ _ _ _ _ _ => k
def Cd.kids : Cd → List Cd | .mk _ c _ _ _ _ _ => c
def Cd.m : Cd → Mo | .mk _ _ m _ _ _ _ => m
def Cd.g : Cd → Gr | .mk _ _ _ g _ _ _ => g
def Cd.sl : Cd → List Sl | .mk _ _ _ _ s _ _ => s
def Cd.vars : Cd → Int | .mk _ _ _ _ _ v _ => v
def Cd.te : Cd → List Te | .mk _ _ _ _ _ _ t => t
mutual
def Cd.cells : Cd → List D
 | .mk k c m g s v t => [.raw (.int .i64 k), .sl 9 (Cd.rows c), ints m.nodes, ints m.edges, ints g.nodes, AM.edges g.edges, slots s, .raw (.int .i64 v), tests t]
def Cd.rows : List Cd → List (List D)
 | [] => []
 | x :: r => Cd.cells x :: Cd.rows r
end
theorem Cd.rows_map : ∀ l : List Cd, Cd.rows l = l.map Cd.cells
 | [] => by simp [Cd.rows]
 | x :: r => by simp [Cd.rows, Cd.rows_map r]
theorem Cd.cells_eq (c : Cd) : c.cells = [.raw (.int .i64 c.kind), .sl 9 (c.kids.map Cd.cells), ints c.m.nodes, ints c.m.edges, ints c.g.nodes, AM.edges c.g.edges, slots c.sl, .raw (.int .i64 c.vars), tests c.te] := by
 cases c
 simp [Cd.cells, Cd.rows_map, Cd.kind, Cd.kids, Cd.m, Cd.g, Cd.sl, Cd.vars, Cd.te]
abbrev conds (l : List Cd) : D := .sl 9 (l.map Cd.cells)
abbrev Cd.row (c : Cd) : List AV := [I c.kind, .d (conds c.kids), .d (ints c.m.nodes), .d (ints c.m.edges), .d (ints c.g.nodes), .d (AM.edges c.g.edges), .d (slots c.sl), I c.vars, .d (tests c.te)]
abbrev Cd.av (c : Cd) : AV := .agg c.row
theorem Cd.kid_lt {c x : Cd} (h : x ∈ c.kids) : SizeOf.sizeOf x < SizeOf.sizeOf c := by
 cases c
 simp only [Cd.kids] at h
 have := List.sizeOf_lt_of_mem h
 simp only [Cd.mk.sizeOf_spec]
 omega
def bigN : Nat := 100000000000000
theorem bigN_eq : bigN = 100000000000000 := rfl
def kidN : Nat := 764877654105
theorem kidN_eq : kidN = 764877654105 := rfl
inductive Cd.Big : Cd → Prop
 | mk {c : Cd} (hk : c.kids.length ≤ kidN) (hmn : c.m.nodes.length ≤ bigN) (hme : c.m.edges.length ≤ bigN) (hgn : c.g.nodes.length ≤ bigN) (hge : c.g.edges.length ≤ bigN) (hs : c.sl.length ≤ bigN) (ht : c.te.length ≤ bigN)
   (h : ∀ x ∈ c.kids, Cd.Big x) : Cd.Big c
theorem Cd.Big.kids {c : Cd} (h : c.Big) : c.kids.length ≤ kidN := by cases h; assumption
theorem Cd.Big.kid {c : Cd} (h : c.Big) : ∀ x ∈ c.kids, Cd.Big x := by cases h; assumption
def measStep (f : Cd → Int × Int) (a : Int × Int) (k : Cd) : Int × Int := (IntKind.i64.wrap (a.1 + (f k).1), max a.2 (f k).2)
mutual
def Cd.meas : Cd → Int × Int
 | .mk k c _ _ _ _ _ => let a := Cd.measL c (1, 0); if k = 5 then (a.1, IntKind.i64.wrap (a.2 + 1)) else a
def Cd.measL : List Cd → Int × Int → Int × Int
 | [], a => a
 | x :: r, a => Cd.measL r (IntKind.i64.wrap (a.1 + (Cd.meas x).1), max a.2 (Cd.meas x).2)
end
theorem Cd.measL_eq : ∀ (l : List Cd) (a : Int × Int), Cd.measL l a = l.foldl (measStep Cd.meas) a
 | [], a => by simp [Cd.measL]
 | x :: r, a => by simp [Cd.measL, Cd.measL_eq r, measStep]
def measK (l : List Cd) (i : Nat) : Int × Int := (l.take i).foldl (measStep Cd.meas) (1, 0)
theorem measK_zero (l : List Cd) : measK l 0 = (1, 0) := by simp [measK]
theorem measK_succ (l : List Cd) {i : Nat} (h : i < l.length) : measK l (i + 1) = (IntKind.i64.wrap ((measK l i).1 + (Cd.meas l[i]).1), max (measK l i).2 (Cd.meas l[i]).2) := by
 simp only [measK, List.take_succ_eq_append_getElem h, List.foldl_append, List.foldl_cons, List.foldl_nil, measStep]
theorem Cd.meas_eq (c : Cd) : c.meas = if c.kind = 5 then ((measK c.kids c.kids.length).1, IntKind.i64.wrap ((measK c.kids c.kids.length).2 + 1)) else measK c.kids c.kids.length := by
 cases c
 simp [Cd.meas, Cd.kind, Cd.kids, measK, Cd.measL_eq]
theorem Cd.get {l : List Cd} {i : Nat} (h : i < l.length) : (l.map Cd.cells)[i]? = some [.raw (.int .i64 l[i].kind), conds l[i].kids, ints l[i].m.nodes, ints l[i].m.edges, ints l[i].g.nodes, AM.edges l[i].g.edges, slots l[i].sl, .raw (.int .i64 l[i].vars), tests l[i].te] := by
 simp [h, Cd.cells_eq l[i]]
def stMe (c : Cd) (nb : Nat) (box : Bxs) (tok : Tks) (nt : Nat) (i : Nat) : AState :=
 ⟨tl [(11, .d (conds c.kids)), (12, I c.kids.length), (13, I i), (4, I (measK c.kids i).1), (5, I (measK c.kids i).2), (1, .ptr (nb + 1) 0 0)], lb nb box [(1, [c.row])], tok, nt⟩
theorem measure_c : ∀ (n : Nat) (c : Cd), SizeOf.sizeOf c < n → c.Big → ∀ (tok : Tks) (nt : Nat), DCall Tryz.prog 178 [c.av] tok nt (.tup [I c.meas.1, I c.meas.2]) tok nt
 | 0, c, hn, _, tok, nt => absurd hn (Nat.not_lt_zero _)
 | n + 1, c, hn, hb, tok, nt => by
  intro box nb
  have ih := fun x (hx : x ∈ c.kids) => measure_c n x (by have := Cd.kid_lt hx; omega) (hb.kid x hx)
  have hkb := hb.kids
  rw [kidN_eq] at hkb
  have hR := c.meas_eq
  refine sB Tryz.func178 Tryz.ntmps178 ?_
  intro hbox htok
  simp only at hbox htok
  apply AL.start
  refine sR ?_
  simp
  refine sR ?_
  simp
  refine sR ?_
  simp
  refine sN ?_
  refine AL.loopT (stMe c nb box tok nt) (fun i => i ≤ c.kids.length) (fun i => c.kids.length - i) 0 (Nat.zero_le _) (Weaks.mk (Nat.le_refl _) rfl (by simp [ToL, lk, measK_zero]) (by simp [BoxL, lk])) ?_
  rintro i S hi hS
  simp only [stMe] at hS
  subst hS
  have hw := sW (i := i) (by omega)
  refine sR ?_
  simp
  refine sC ?_
  simp
  refine ⟨fun hlt => ?_, fun hge => ?_⟩
  ·have hS := measK_succ c.kids hlt
   have ihx := ih _ (List.getElem_mem hlt)
   refine sR ?_
   simp [hlt, Cd.cells_eq]
   generalize c.kids[i] = x at *
   refine sR ?_
   simp
   refine Stop.of_d (ihx _ _) ?_
   simp
   refine sR ?_
   simp
   refine sR ?_
   simp [hw]
   refine sE ?_
   exact ⟨i + 1, hlt, by omega, Weaks.mk (Nat.le_refl _) rfl (by simp [ToL, lk, hS]) (by simp [BoxL, lk])⟩
  ·refine sX ?_
   simp only [AU, ↓reduceIte]
   have : i = c.kids.length := by omega
   subst this
   refine sR ?_
   simp
   by_cases h5 : c.kind = 5
   ·have hb5 : (c.kind == 5) = true := by simp [h5]
    simp only [hb5]
    refine sC ?_
    simp
    refine sR ?_
    simp
    refine sR ?_
    simp
    refine sT ?_
    try simp only [AU]
    refine ⟨by simp, sF hbox htok (fun _ h => h) (Nat.le_refl _) ?_⟩
    simp [packA, hR, h5]
   ·have hb5 : (c.kind == 5) = false := by simp [h5]
    simp only [hb5]
    refine sC ?_
    simp
    refine sR ?_
    simp
    refine sT ?_
    try simp only [AU]
    refine ⟨by simp, sF hbox htok (fun _ h => h) (Nat.le_refl _) ?_⟩
    simp [packA, hR, h5]
end Go.AM
namespace Go.AM
open Go Go.Proofs
def z0 (n : Int) : Bool := n == 0
theorem z0_eq (n : Int) : (n == 0) = z0 n := rfl
def plainC (c : Cd) : Bool := z0 c.sl.length && (z0 c.vars && z0 c.te.length)
def unusedC (c : Cd) : Bool := z0 c.m.nodes.length && (z0 c.m.edges.length && (z0 c.g.nodes.length && (z0 c.g.edges.length && plainC c)))
def okC (c : Cd) : Bool :=
 if c.kind = 1 then z0 c.kids.length && unusedC c
 else if c.kind = 2 then decide ((c.kids.length : Int) = 1) && unusedC c
 else if c.kind = 3 ∨ c.kind = 4 then decide (0 < c.kids.length) && unusedC c
 else if c.kind = 5 then decide ((c.kids.length : Int) = 1)
 else false
def shapeC (c : Cd) : Int := if okC c = true then if plainC c = true then 0 else 8 else 1
theorem plain_c (c : Cd) (tok : Tks) (nt : Nat) : DCall Tryz.prog 227 [.agg [.d (ints c.g.nodes), .d (AM.edges c.g.edges), .d (slots c.sl), I c.vars, .d (tests c.te)]] tok nt (B (plainC c)) tok nt := by
 intro box nb
 refine sB Tryz.func227 Tryz.ntmps227 ?_
 intro hbox htok
 simp only at hbox htok
 apply AL.start
 refine sR ?_
 simp
 cases h1 : z0 c.sl.length
 ·refine sR ?_
  simp [z0_eq, h1]
  refine sT ?_
  try simp only [AU]
  refine ⟨by simp, sF hbox htok (fun _ h => h) (Nat.le_refl _) ?_⟩
  simp [packA, plainC, h1]
 ·cases h2 : z0 c.vars
  ·refine sR ?_
   simp [z0_eq, h1, h2]
   refine sT ?_
   try simp only [AU]
   refine ⟨by simp, sF hbox htok (fun _ h => h) (Nat.le_refl _) ?_⟩
   simp [packA, plainC, h1, h2]
  ·refine sR ?_
   simp [z0_eq, h1, h2]
   refine sT ?_
   try simp only [AU]
   refine ⟨by simp, sF hbox htok (fun _ h => h) (Nat.le_refl _) ?_⟩
   simp [packA, plainC, h1, h2]
theorem unused_c (c : Cd) (tok : Tks) (nt : Nat) : DCall Tryz.prog 226 [c.av] tok nt (B (unusedC c)) tok nt := by
 intro box nb
 refine sB Tryz.func226 Tryz.ntmps226 ?_
 intro hbox htok
 simp only at hbox htok
 apply AL.start
 refine sR ?_
 simp
 cases h1 : z0 c.m.nodes.length
 ·refine sR ?_
  simp [z0_eq, h1]
  refine sT ?_
  try simp only [AU]
  refine ⟨by simp, sF hbox htok (fun _ h => h) (Nat.le_refl _) ?_⟩
  simp [packA, unusedC, h1]
 ·cases h2 : z0 c.m.edges.length
  ·refine sR ?_
   simp [z0_eq, h1, h2]
   refine sT ?_
   try simp only [AU]
   refine ⟨by simp, sF hbox htok (fun _ h => h) (Nat.le_refl _) ?_⟩
   simp [packA, unusedC, h1, h2]
  ·cases h3 : z0 c.g.nodes.length
   ·refine sR ?_
    simp [z0_eq, h1, h2, h3]
    refine sT ?_
    try simp only [AU]
    refine ⟨by simp, sF hbox htok (fun _ h => h) (Nat.le_refl _) ?_⟩
    simp [packA, unusedC, h1, h2, h3]
   ·cases h4 : z0 c.g.edges.length
    ·refine sR ?_
     simp [z0_eq, h1, h2, h3, h4]
     refine sT ?_
     try simp only [AU]
     refine ⟨by simp, sF hbox htok (fun _ h => h) (Nat.le_refl _) ?_⟩
     simp [packA, unusedC, h1, h2, h3, h4]
    ·refine sR ?_
     simp [z0_eq, h1, h2, h3, h4]
     refine Stop.of_d (plain_c c _ _) ?_
     simp
     refine sT ?_
     try simp only [AU]
     refine ⟨by simp, sF hbox htok (fun _ h => h) (Nat.le_refl _) ?_⟩
     simp [packA, unusedC, h1, h2, h3, h4]
theorem shape_c (c : Cd) (tok : Tks) (nt : Nat) : DCall Tryz.prog 177 [c.av] tok nt (I (shapeC c)) tok nt := by
 intro box nb
 refine sB Tryz.func177 Tryz.ntmps177 ?_
 intro hbox htok
 simp only at hbox htok
 apply AL.start
 refine sR ?_
 simp
 refine sR ?_
 simp
 refine sR ?_
 simp
 refine AL.mid ⟨tl [(3, B (okC c)), (1, .ptr (nb + 1) 0 0), (2, I 0)], lb nb box [(1, [c.row])], tok, nt⟩ ?_ ?_
 ·by_cases k1 : c.kind = 1
  ·refine sR ?_
   simp [k1]
   refine sC ?_
   simp
   cases h1 : z0 c.kids.length
   ·refine sR ?_
    simp [z0_eq, h1]
    refine sE ?_
    exact Weaks.mk (Nat.le_refl _) rfl (by simp [ToL, lk, okC, k1, h1]) (by simp [BoxL, lk])
   ·refine sR ?_
    simp [z0_eq, h1]
    refine Stop.of_d (unused_c c _ _) ?_
    simp
    refine sE ?_
    exact Weaks.mk (Nat.le_refl _) rfl (by simp [ToL, lk, okC, k1, h1]) (by simp [BoxL, lk])
  ·have n1 : (c.kind == 1) = false := by simp [k1]
   refine sR ?_
   simp [n1]
   refine sC ?_
   simp
   by_cases k2 : c.kind = 2
   ·refine sR ?_
    simp [k2]
    refine sC ?_
    simp
    by_cases h1 : (c.kids.length : Int) = 1
    ·refine sR ?_
     simp [h1]
     refine Stop.of_d (unused_c c _ _) ?_
     simp
     refine sE ?_
     exact Weaks.mk (Nat.le_refl _) rfl (by simp [ToL, lk, okC, k2, h1]) (by simp [BoxL, lk])
    ·have b1 : ((c.kids.length : Int) == 1) = false := by simp [h1]
     refine sR ?_
     simp [b1]
     refine sE ?_
     exact Weaks.mk (Nat.le_refl _) rfl (by simp [ToL, lk, okC, k2, h1]) (by simp [BoxL, lk])
   ·have n2 : (c.kind == 2) = false := by simp [k2]
    refine sR ?_
    simp [n2]
    refine sC ?_
    simp
    refine AL.seq ?_
    refine AL.mid ⟨tl [(26, B (decide (c.kind = 3 ∨ c.kind = 4))), (5, I c.kind), (3, B false), (1, .ptr (nb + 1) 0 0), (2, I 0)], lb nb box [(1, [c.row])], tok, nt⟩ ?_ ?_
    ·by_cases k3 : c.kind = 3
     ·refine sR ?_
      simp [k3]
      refine sC ?_
      simp
      refine sE ?_
      exact Weaks.mk (Nat.le_refl _) rfl (by simp [ToL, lk, k3]) (by simp [BoxL, lk])
     ·have n3 : (c.kind == 3) = false := by simp [k3]
      refine sR ?_
      simp [n3]
      refine sC ?_
      simp
      by_cases k4 : c.kind = 4
      ·refine sR ?_
       simp [k4]
       refine sE ?_
       exact Weaks.mk (Nat.le_refl _) rfl (by simp [ToL, lk, k4]) (by simp [BoxL, lk])
      ·have n4 : (c.kind == 4) = false := by simp [k4]
       refine sR ?_
       simp [n4]
       refine sE ?_
       exact Weaks.mk (Nat.le_refl _) rfl (by simp [ToL, lk, k3, k4]) (by simp [BoxL, lk])
    ·by_cases k34 : c.kind = 3 ∨ c.kind = 4
     ·have d34 : decide (c.kind = 3 ∨ c.kind = 4) = true := decide_eq_true k34
      simp only [d34]
      refine sC ?_
      simp
      by_cases h1 : 0 < c.kids.length
      ·refine sR ?_
       simp [h1]
       refine Stop.of_d (unused_c c _ _) ?_
       simp
       refine sE ?_
       exact Weaks.mk (Nat.le_refl _) rfl (by simp [ToL, lk, okC, k1, k2, k34, h1]) (by simp [BoxL, lk])
      ·refine sR ?_
       simp [h1]
       refine sE ?_
       exact Weaks.mk (Nat.le_refl _) rfl (by simp [ToL, lk, okC, k1, k2, k34, h1]) (by simp [BoxL, lk])
     ·have d34 : decide (c.kind = 3 ∨ c.kind = 4) = false := decide_eq_false k34
      simp only [d34]
      refine sC ?_
      simp
      by_cases k5 : c.kind = 5
      ·refine sR ?_
       simp [k5]
       refine sC ?_
       simp
       have h3 : ¬ ((5 : Int) = 3 ∨ (5 : Int) = 4) := by decide
       by_cases h1 : (c.kids.length : Int) = 1
       ·refine sR ?_
        simp [h1]
        refine sE ?_
        exact Weaks.mk (Nat.le_refl _) rfl (by simp [ToL, lk, okC, k5, h1]) (by simp [BoxL, lk])
       ·have b1 : ((c.kids.length : Int) == 1) = false := by simp [h1]
        refine sR ?_
        simp [b1]
        refine sE ?_
        exact Weaks.mk (Nat.le_refl _) rfl (by simp [ToL, lk, okC, k5, h1]) (by simp [BoxL, lk])
      ·have n5 : (c.kind == 5) = false := by simp [k5]
       refine sR ?_
       simp [n5]
       refine sC ?_
       simp
       refine sE ?_
       exact Weaks.mk (Nat.le_refl _) rfl (by simp [ToL, lk, okC, k1, k2, k34, k5]) (by simp [BoxL, lk])
 ·refine sR ?_
  simp
  cases h1 : okC c
  ·refine sC ?_
   simp
   refine sR ?_
   simp
   refine sT ?_
   try simp only [AU]
   refine ⟨by simp, sF hbox htok (fun _ h => h) (Nat.le_refl _) ?_⟩
   simp [packA, shapeC, h1]
  ·refine sC ?_
   simp
   refine sR ?_
   simp
   refine Stop.of_d (plain_c c _ _) ?_
   simp
   cases h2 : plainC c
   ·refine sC ?_
    simp
    refine sR ?_
    simp
    refine sT ?_
    try simp only [AU]
    refine ⟨by simp, sF hbox htok (fun _ h => h) (Nat.le_refl _) ?_⟩
    simp [packA, shapeC, h1, h2]
   ·refine sC ?_
    simp
    refine sR ?_
    simp
    refine sT ?_
    try simp only [AU]
    refine ⟨by simp, sF hbox htok (fun _ h => h) (Nat.le_refl _) ?_⟩
    simp [packA, shapeC, h1, h2]
end Go.AM
namespace Go.AM
open Go Go.Proofs
def errL (f : Cd → Int) : List Cd → Int
 | [] => 0
 | x :: r => if f x = 0 then errL f r else f x
theorem errL_all {f : Cd → Int} : ∀ {l : List Cd}, (∀ x ∈ l, f x = 0) → errL f l = 0
 | [], _ => rfl
 | x :: r, h => by rw [errL, if_pos (h x (by simp)), errL_all fun y hy => h y (by simp [hy])]
theorem errL_at {f : Cd → Int} : ∀ {l : List Cd} {i : Nat} (hi : i < l.length), (∀ x ∈ l.take i, f x = 0) → f l[i] ≠ 0 → errL f l = f l[i]
 | x :: r, 0, _, _, h => by
  have h' : ¬ f x = 0 := h
  rw [errL, if_neg h']; rfl
 | x :: r, i + 1, hi, h, hf => by
  rw [errL, if_pos (h x (by simp))]
  exact errL_at (by simpa using hi) (fun y hy => h y (by simp [hy])) hf
theorem errL_more {f : Cd → Int} {l : List Cd} {i : Nat} (hi : i < l.length) (h : ∀ x ∈ l.take i, f x = 0) (h1 : f l[i] = 0) : ∀ x ∈ l.take (i + 1), f x = 0 := by
 rw [List.take_succ_eq_append_getElem hi]
 intro x hx
 rcases List.mem_append.1 hx with hx | hx
 ·exact h x hx
 ·rw [List.mem_singleton] at hx; subst hx; exact h1
def smallC (c : Cd) : Int := if 2000 < c.meas.1 ∨ 3 < c.meas.2 then 3 else 0
theorem cdSmall_c (c : Cd) (hb : c.Big) (tok : Tks) (nt : Nat) : DCall Tryz.prog 121 [c.av] tok nt (I (smallC c)) tok nt := by
 intro box nb
 have hm := measure_c _ c (Nat.lt_succ_self _) hb
 unfold smallC
 generalize c.meas = q at *
 refine sB Tryz.func121 Tryz.ntmps121 ?_
 intro hbox htok
 simp only at hbox htok
 apply AL.start
 refine sR ?_
 simp
 refine sR ?_
 simp
 refine Stop.of_d (hm _ _) ?_
 simp
 refine sR ?_
 simp
 by_cases h1 : 2000 < q.1
 ·simp [h1]
  refine sC ?_
  simp
  refine sR ?_
  simp
  refine sT ?_
  try simp only [AU]
  refine ⟨by simp, sF hbox htok (fun _ h => h) (Nat.le_refl _) ?_⟩
  simp [packA, h1]
 ·by_cases h2 : 3 < q.2
  ·simp [h1, h2]
   refine sC ?_
   simp
   refine sR ?_
   simp
   refine sT ?_
   try simp only [AU]
   refine ⟨by simp, sF hbox htok (fun _ h => h) (Nat.le_refl _) ?_⟩
   simp [packA, h1, h2]
  ·simp [h1, h2]
   refine sC ?_
   simp
   refine sR ?_
   simp
   refine sT ?_
   try simp only [AU]
   refine ⟨by simp, sF hbox htok (fun _ h => h) (Nat.le_refl _) ?_⟩
   simp [packA, h1, h2]
mutual
def Cd.shs : Cd → Int
 | .mk k c m g s v t => if shapeC (.mk k c m g s v t) = 0 then Cd.shsL c else shapeC (.mk k c m g s v t)
def Cd.shsL : List Cd → Int
 | [] => 0
 | x :: r => if Cd.shs x = 0 then Cd.shsL r else Cd.shs x
end
theorem Cd.shsL_eq : ∀ l : List Cd, Cd.shsL l = errL Cd.shs l
 | [] => by simp [Cd.shsL, errL]
 | x :: r => by simp [Cd.shsL, errL, Cd.shsL_eq r]
theorem Cd.shs_eq (c : Cd) : c.shs = if shapeC c = 0 then errL Cd.shs c.kids else shapeC c := by
 cases c
 simp [Cd.shs, Cd.kids, Cd.shsL_eq]
end Go.AM
namespace Go.Proofs
open Go.Shelf
def Tryz.lays189_ren : Go.Shelf.Ren := ⟨fun | 189 => 152 | 125 => 210 | 257 => 209 | 128 => 253 | 129 => 254 | 294 => 245 | 295 => 246 | 296 => 247 | 297 => 248 | 298 => 249 | 299 => 250 | 216 => 214 | 300 => 251 | 301 => 252 | 328 => 270 | 329 => 271 | 330 => 272 | 331 => 273 | 332 => 274 | 215 => 255 | 343 => 291 | n => n, fun | 28 => 22 | 3 => 3 | 46 => 223 | 0 => 0 | 51 => 257 | 53 => 60 | 4 => 4 | 183 => 251 | 182 => 250 | 131 => 191 | 5 => 5 | 9 => 9 | 218 => 271 | 222 => 275 | 228 => 286 | 229 => 88 | n => n, fun | n => n⟩
theorem Tryz.lays189 : Go.Proofs.Lays.n189 Tryz.prog Tryz.lays189_ren := {
 mixed := by kernel_rfl
 f125 := Tryz.func210.trans (congrArg some (by kernel_rfl))
 f128 := Tryz.func253.trans (congrArg some (by kernel_rfl))
 f129 := Tryz.func254.trans (congrArg some (by kernel_rfl))
 f189 := Tryz.func152.trans (congrArg some (by kernel_rfl))
 f215 := Tryz.func255.trans (congrArg some (by kernel_rfl))
 f216 := Tryz.func214.trans (congrArg some (by kernel_rfl))
 f257 := Tryz.func209.trans (congrArg some (by kernel_rfl))
 f294 := Tryz.func245.trans (congrArg some (by kernel_rfl))
 f295 := Tryz.func246.trans (congrArg some (by kernel_rfl))
 f296 := Tryz.func247.trans (congrArg some (by kernel_rfl))
 f297 := Tryz.func248.trans (congrArg some (by kernel_rfl))
 f298 := Tryz.func249.trans (congrArg some (by kernel_rfl))
 f299 := Tryz.func250.trans (congrArg some (by kernel_rfl))
 f300 := Tryz.func251.trans (congrArg some (by kernel_rfl))
 f301 := Tryz.func252.trans (congrArg some (by kernel_rfl))
 f328 := Tryz.func270.trans (congrArg some (by kernel_rfl))
 f329 := Tryz.func271.trans (congrArg some (by kernel_rfl))
 f330 := Tryz.func272.trans (congrArg some (by kernel_rfl))
 f331 := Tryz.func273.trans (congrArg some (by kernel_rfl))
 f332 := Tryz.func274.trans (congrArg some (by kernel_rfl))
 f343 := Tryz.func291.trans (congrArg some (by kernel_rfl))
 t0 := Tryz.underlying0
 a0 := Tryz.isAgg0
 z0 := Tryz.sizeOf0
 v0 := Tryz.zeroValue0
 t3 := Tryz.underlying3
 a3 := Tryz.isAgg3
 z3 := Tryz.sizeOf3
 v3 := Tryz.zeroValue3
 t4 := Tryz.underlying4
 a4 := Tryz.isAgg4
 z4 := Tryz.sizeOf4
 v4 := Tryz.zeroValue4
 t5 := Tryz.underlying5
 a5 := Tryz.isAgg5
 z5 := Tryz.sizeOf5
 v5 := Tryz.zeroValue5
 t9 := Tryz.underlying9
 a9 := Tryz.isAgg9
 z9 := Tryz.sizeOf9
 v9 := Tryz.zeroValue9
 t28 := Tryz.underlying22
 a28 := Tryz.isAgg22
 z28 := Tryz.sizeOf22
 v28 := Tryz.zeroValue22
 t46 := Tryz.underlying223
 a46 := Tryz.isAgg223
 z46 := Tryz.sizeOf223
 v46 := Tryz.zeroValue223
 t51 := Tryz.underlying257
 a51 := Tryz.isAgg257
 z51 := Tryz.sizeOf257
 v51 := Tryz.zeroValue257
 t53 := Tryz.underlying60
 a53 := Tryz.isAgg60
 z53 := Tryz.sizeOf60
 v53 := Tryz.zeroValue60
 t131 := Tryz.underlying191
 a131 := Tryz.isAgg191
 z131 := Tryz.sizeOf191
 v131 := Tryz.zeroValue191
 t182 := Tryz.underlying250
 a182 := Tryz.isAgg250
 z182 := Tryz.sizeOf250
 v182 := Tryz.zeroValue250
 t183 := Tryz.underlying251
 a183 := Tryz.isAgg251
 z183 := Tryz.sizeOf251
 v183 := Tryz.zeroValue251
 t218 := Tryz.underlying271
 a218 := Tryz.isAgg271
 z218 := Tryz.sizeOf271
 v218 := Tryz.zeroValue271
 t222 := Tryz.underlying275
 a222 := Tryz.isAgg275
 z222 := Tryz.sizeOf275
 v222 := Tryz.zeroValue275
 t228 := Tryz.underlying286
 a228 := Tryz.isAgg286
 z228 := Tryz.sizeOf286
 v228 := Tryz.zeroValue286
 t229 := Tryz.underlying88
 a229 := Tryz.isAgg88
 z229 := Tryz.sizeOf88
 v229 := Tryz.zeroValue88 }
open Go.Sort Go.RowKit in
theorem Tryz.slices_Sort_int (blk off cap : Nat) (zs : List Int) (w : World) (hH : Holds (Value.int .i64) w blk off zs.toArray) (hblk : blk < w.heap.size) (hsz : zs.length < 4611686018427387904) :
  Calls Tryz.prog 152 #[.slice (some ⟨blk, off, none⟩) zs.length cap] w fun e w' =>
   e = .returned (.tuple #[]) ∧ ∃ n os, w' = grow (putRow (Value.int .i64) (Sort.ahead w n) blk off (zs.mergeSort fun x y => decide (x ≤ y)).toArray) os := Any.slices_Sort_int Tryz.lays189 blk off cap zs w hH hblk hsz
def Tryz.laysNm215_ren : Go.Shelf.Ren := ⟨fun | 15 => 58 | n => n, fun | 22 => 22 | 3 => 3 | 4 => 4 | n => n, fun | n => n⟩
theorem Tryz.laysNm215 : Go.Proofs.Lays2.n15 Tryz.prog Tryz.laysNm215_ren := {
 mixed := by kernel_rfl
 f15 := Tryz.func58.trans (congrArg some (by kernel_rfl))
 t3 := Tryz.underlying3
 a3 := Tryz.isAgg3
 z3 := Tryz.sizeOf3
 v3 := Tryz.zeroValue3
 t4 := Tryz.underlying4
 a4 := Tryz.isAgg4
 z4 := Tryz.sizeOf4
 v4 := Tryz.zeroValue4
 t22 := Tryz.underlying22
 a22 := Tryz.isAgg22
 z22 := Tryz.sizeOf22
 v22 := Tryz.zeroValue22
 i3 := by kernel_rfl }
open Go.RowKit Go.Lib in
theorem Tryz.slices_Clone_int (b off n c : Nat) (zs : List Int) (w : World) (hz : n ≤ zs.length) (hbig : n * 8 ≤ 140737488355328) (hc : ∀ j, j < zs.length → w.cell? ⟨b, off + j, none⟩ = some (.int .i64 (zs.getD j 0))) :
  Calls Tryz.prog 58 #[.slice (some ⟨b, off, none⟩) n c] w fun e w' => ∃ v', e = .returned v' ∧ w'.ownsRow w.heap.size 3 1 v' n ((zs.take n).map (Value.int .i64)) ∧ v' ≠ .slice none 0 0 ∧ Below w.heap.size w w' := Any.slices_Clone_int Tryz.laysNm215 b off n c zs w hz hbig hc
open Go.RowKit Go.Lib in
theorem Tryz.slices_Clone_int_nil (n c : Nat) (w : World) :
  Calls Tryz.prog 58 #[.slice none n c] w fun e w' => e = .returned (.slice none 0 0) ∧ w' = w := Any.slices_Clone_int_nil Tryz.laysNm215 n c w
open Go.RowKit Go.Lib in
theorem Tryz.slices_Clone_int_zero (a : Addr) (c : Nat) (w : World) :
  Calls Tryz.prog 58 #[.slice (some a) 0 c] w fun e w' => ∃ v', e = .returned v' ∧ w'.ownsRow w.heap.size 3 1 v' 0 [] ∧ v' ≠ .slice none 0 0 ∧ Below w.heap.size w w' := Any.slices_Clone_int_zero Tryz.laysNm215 a c w
def Tryz.laysNm220_ren : Go.Shelf.Ren := ⟨fun | 20 => 153 | n => n, fun | 22 => 22 | 3 => 3 | 4 => 4 | 0 => 0 | n => n, fun | n => n⟩
theorem Tryz.laysNm220 : Go.Proofs.Lays2.n20 Tryz.prog Tryz.laysNm220_ren := {
 mixed := by kernel_rfl
 f20 := Tryz.func153.trans (congrArg some (by kernel_rfl))
 t0 := Tryz.underlying0
 a0 := Tryz.isAgg0
 z0 := Tryz.sizeOf0
 v0 := Tryz.zeroValue0
 t3 := Tryz.underlying3
 a3 := Tryz.isAgg3
 z3 := Tryz.sizeOf3
 v3 := Tryz.zeroValue3
 t4 := Tryz.underlying4
 a4 := Tryz.isAgg4
 z4 := Tryz.sizeOf4
 v4 := Tryz.zeroValue4
 t22 := Tryz.underlying22
 a22 := Tryz.isAgg22
 z22 := Tryz.sizeOf22
 v22 := Tryz.zeroValue22
 i3 := by kernel_rfl }
open Go.RowKit Go.Lib Go.Sort in
theorem Tryz.slices_Compact_int (blk off cap : Nat) (zs : List Int) (w : World) (hH : Holds (Value.int .i64) w blk off zs.toArray) (hsz : zs.length ≤ 9223372036854775807) (hcap : zs.length ≤ cap) :
  Calls Tryz.prog 153 #[.slice (some ⟨blk, off, none⟩) zs.length cap] w fun e w' => e = .returned (.slice (some ⟨blk, off, none⟩) (Lib.compact zs).length cap) ∧ ∃ q, w' = putRow (Value.int .i64) (Sort.ahead w q) blk off (Lib.compact zs ++ List.replicate (zs.length - (Lib.compact zs).length) 0).toArray := Any.slices_Compact_int Tryz.laysNm220 blk off cap zs w hH hsz hcap
open Go.RowKit Go.Lib Go.Sort in
theorem Tryz.slices_Compact_int_empty (a : Option Addr) (cap : Nat) (w : World) :
  Calls Tryz.prog 153 #[.slice a 0 cap] w fun e w' => e = .returned (.slice a 0 cap) ∧ w' = w := Any.slices_Compact_int_empty Tryz.laysNm220 a cap w
open Go.RowKit Go.Sort in
theorem Tryz.slices_Sort_int_none (p : Option Addr) (cap : Nat) (w : World) :
  Calls Tryz.prog 152 #[.slice p 0 cap] w fun e w' => e = .returned (.tuple #[]) ∧ w' = w := Any.slices_Sort_int_none Tryz.lays189 p cap w
end Go.Proofs
namespace Go.Proofs.YtfgcpmeadeehhaaGreat.images
open Go Go.Proofs Go.RowKit Go.Shelf Go.Sort
theorem below_grow {B : Nat} {w0 w : World} {os : Array Obj} (h : Below B w0 w) (hB : B ≤ w.heap.size) : Below B w0 (grow w os) :=
 ⟨h.os, h.tape, h.output, by simp [grow]; have := h.size; omega, fun k hk => by
  rw [← h.block k hk]
  exact heap_grow_old _ _ (by omega)⟩
set_option maxHeartbeats 2000000 in
set_option maxRecDepth 100000 in
theorem any (b off n c : Nat) (zs : List Int) (w : World) (hz : zs.length = n) (hbig : n * 8 ≤ 140737488355328) (hc : ∀ j, j < zs.length → w.cell? ⟨b, off + j, none⟩ = some (.int .i64 (zs.getD j 0))) :
    Calls Tryz.prog 88 #[.slice (some ⟨b, off, none⟩) n c] w fun e w' => e = .returned (.int .i64 (Lib.compact (zs.mergeSort fun x y => decide (x ≤ y))).length) ∧ Below w.heap.size w w' := by
  have hclone := Tryz.slices_Clone_int b off n c zs w (by omega) hbig hc
  rw [List.take_of_length_le (by omega)] at hclone
  clear hc
  go_enter Tryz.func88, Tryz.ntmps88
  go_wp2_with (first
    | (go_at_call 58; refine hclone.mono ?_; rintro e w1 ⟨v1, rfl, hown, hnn, hbel⟩
       obtain ⟨g, cap, rfl, hbg, hgl, hncap, hcm, hlen, hH⟩ := Lib.holds_of_ownsRow hown hnn
       have hsort := Tryz.slices_Sort_int g 0 cap zs w1 hH hgl (by omega)
       rw [hlen] at hsort
       have X : Aside (Below w.heap.size w w1 ∧ w.heap.size ≤ g ∧ g < w1.heap.size ∧ n ≤ cap ∧ cap ≤ maxLen ∧ Holds (Value.int .i64) w1 g 0 zs.toArray) := ⟨hbel, hbg, hgl, hncap, hcm, hH⟩
       clear hown hbel hH hnn)
    | (go_at_call 152; refine hsort.mono ?_; rintro e w2 ⟨rfl, nn, os, rfl⟩
       have hl2 : (zs.mergeSort fun x y => decide (x ≤ y)).length = n := by rw [List.length_mergeSort]; exact hz
       have hH2 : Holds (Value.int .i64) (grow (putRow (Value.int .i64) (Sort.ahead w1 nn) g 0 (zs.mergeSort fun x y => decide (x ≤ y)).toArray) os) g 0 (zs.mergeSort fun x y => decide (x ≤ y)).toArray :=
         holds_grow _ _ os g 0 _ (by simpa [putRow, mapBlock, Sort.ahead] using X.out.2.2.1) (holds_putRow _ _ g 0 _ _ (holds_ahead _ w1 nn g 0 _ X.out.2.2.2.2.2) (by simp))
       have hcomp := Tryz.slices_Compact_int g 0 cap (zs.mergeSort fun x y => decide (x ≤ y)) _ hH2 (by omega) (by have := X.out.2.2.2.1; omega)
       rw [hl2] at hcomp
       clear hH2 hsort)
    | (go_at_call 153; refine hcomp.mono ?_; rintro e w3 ⟨rfl, q, rfl⟩))
  go_ret
  exact ⟨rfl, Lib.below_putRow (below_grow (Lib.below_putRow X.out.1 X.out.2.1) (by have := X.out.1.size; simp [putRow, mapBlock, Sort.ahead]; omega)) X.out.2.1⟩
set_option maxHeartbeats 2000000 in
set_option maxRecDepth 100000 in
theorem zero (a : Addr) (c : Nat) (w : World) : Calls Tryz.prog 88 #[.slice (some a) 0 c] w fun e w' => e = .returned (.int .i64 0) ∧ Below w.heap.size w w' := by
  have hclone := Tryz.slices_Clone_int_zero a c w
  go_enter Tryz.func88, Tryz.ntmps88
  go_wp2_with (first
    | (go_at_call 58; refine hclone.mono ?_; rintro e w1 ⟨v1, rfl, hown, hnn, hbel⟩
       obtain ⟨g, cap, rfl, _, _, _, _, _, _⟩ := Lib.holds_of_ownsRow (enc := Value.int .i64) (zs := []) hown hnn
       have X : Aside (Below w.heap.size w w1) := hbel
       clear hown hbel hnn)
    | (go_at_call 152; refine (Tryz.slices_Sort_int_none _ _ _).mono ?_; rintro e w2 ⟨rfl, rfl⟩)
    | (go_at_call 153; refine (Tryz.slices_Compact_int_empty _ _ _).mono ?_; rintro e w3 ⟨rfl, rfl⟩))
  go_ret
  exact ⟨rfl, X.out⟩
set_option maxHeartbeats 2000000 in
set_option maxRecDepth 100000 in
theorem none (n c : Nat) (w : World) : Calls Tryz.prog 88 #[.slice none n c] w fun e w' => e = .returned (.int .i64 0) ∧ Below w.heap.size w w' := by
 go_enter Tryz.func88, Tryz.ntmps88
 go_wp2_with (first
  | (go_at_call 58; refine (Tryz.slices_Clone_int_nil n c _).mono ?_; rintro e w1 ⟨rfl, rfl⟩)
  | (go_at_call 152; refine (Tryz.slices_Sort_int_none _ _ _).mono ?_; rintro e w2 ⟨rfl, rfl⟩)
  | (go_at_call 153; refine (Tryz.slices_Compact_int_empty _ _ _).mono ?_; rintro e w3 ⟨rfl, rfl⟩))
 go_ret
 exact ⟨rfl, Below.refl _ _⟩
end Go.Proofs.YtfgcpmeadeehhaaGreat.images
namespace Go.AM
open Go Go.Proofs Go.RowKit
theorem le_below {G : Gh} {w w' : World} {m : AMem} (hm : RelM G m w) (h : Below w.heap.size w w') : Le G w G w' where
 os := h.os
 tape := h.tape
 output := h.output
 size := h.size
 whole b hb hk := ⟨hk, h.block b hb⟩
 part b f c hk := ⟨⟨f, Nat.le_refl _, hk⟩, fun a ha _ => by
  have hb : a.block < w.heap.size := by
   rcases Nat.lt_or_ge a.block w.heap.size with hb | hb
   ·exact hb
   ·have := hm.fresh a.block hb
    rw [ha, hk] at this
    cases this
  exact World.cell?_of_block (w := w) (h.block _ hb)⟩
 bx _ _ h := h
 ty b c0 T f0 hb := ⟨c0, f0, (h.block b (Array.getElem?_eq_some_iff.1 hb).1).trans hb⟩
 nt := Nat.le_refl _
 tk t _ := .inr ⟨rfl, fun g hg => ⟨rfl, fun _ => h.block g (hm.tlt t g hg)⟩⟩
theorem lt_of_obj {w : World} {b : Nat} {o : Obj} (h : w.heap[b]? = some o) : b < w.heap.size := by
 rcases Nat.lt_or_ge b w.heap.size with hb | hb
 ·exact hb
 ·rw [Array.getElem?_eq_none hb] at h; cases h
theorem relM_below {G : Gh} {w w' : World} {m : AMem} (hm : RelM G m w) (h : Below w.heap.size w w') : RelM G m w' := by
 have hle := le_below hm h
 constructor
 case box =>
  intro k rows b sz h1 h2
  obtain ⟨g1, cs, e, g2, g3, g4, g5⟩ := hm.box k rows b sz h1 h2
  exact ⟨g1, cs, e, by rw [h.block b (lt_of_obj g2)]; exact g2, g3, g4.mono hle, g5⟩
 case nobox => exact hm.nobox
 case inj => exact hm.inj
 case nb => exact hm.nb
 case nt => exact hm.nt
 case toks => exact hm.toks
 case tokb =>
  intro t g hg
  obtain ⟨f, cur, e, g1, g2⟩ := hm.tokb t g hg
  exact ⟨f, cur, e, g1, by rw [h.block g (lt_of_obj g2)]; exact g2⟩
 case tinj => exact hm.tinj
 case tnt => exact hm.tnt
 case fresh => intro b hb; exact hm.fresh b (Nat.le_trans h.size hb)
theorem DCall.of_below {P : Program} {f : FuncId} {args : List AV} {tok : Nat → Bool} {nt : Nat} {v : Value} (hE : Enters P f) (h1 : v.oneCell' = true)
  (h : ∀ G w vals, RVs G w args vals → Calls P f vals.toArray w fun e w' => e = .returned v ∧ Below w.heap.size w w') : DCall P f args tok nt (.d (.raw v)) tok nt := by
 intro box nb
 refine ⟨hE, fun G w vals hm hr => (h G w vals hr).mono ?_⟩
 rintro e w' ⟨rfl, hb⟩
 exact ⟨v, _, _, G, rfl, ⟨rfl, rfl⟩, rfl, relM_below hm hb, .d (.raw h1), le_below hm hb, fun k hk => ⟨hk, rfl⟩⟩
theorem rvd_ints {c : Addr → Option Value} {ps : Addr → Prop} {l : List Int} {v : Value} (h : RVd c ps (ints l) v) :
  ∃ A cap, v = .slice A l.length cap ∧ l.length ≤ cap ∧ cap ≤ maxLen ∧ (l ≠ [] → ∃ a, A = some a) ∧ ∀ a, A = some a → ∀ i, i < l.length → c (a.add i) = some (.int .i64 (l.getD i 0)) := by
 unfold ints at h
 generalize hes : (l.map fun n => [D.raw (.int .i64 n)]) = es at h
 cases h with
 | @sl _ _ A cap u hcap hmax hsz hA hc hr =>
  have hl : es.length = l.length := by rw [← hes]; simp
  refine ⟨A, cap, by rw [hl], by omega, hmax, fun hne => hA (by intro e; rw [e] at hl; exact hne (List.length_eq_zero_iff.1 hl.symm)), fun a ha i hi => ?_⟩
  have g := (hc a ha i 0 (by omega) (by decide)).2
  have r := hr i 0 (by omega) (by rw [hsz _ (List.getElem_mem _)]; decide)
  have e1 : es[i][0]'(by rw [hsz _ (List.getElem_mem _)]; decide) = D.raw (.int .i64 l[i]) := by
   subst hes
   simp
  rw [e1] at r
  have e2 : u i 0 = .int .i64 l[i] := by
   generalize hu : u i 0 = x at r
   cases r
   rfl
  rw [Nat.mul_one, Nat.add_zero, e2] at g
  rw [g]
  simp [hi]
def imagesN (l : List Int) : Nat := (Lib.compact (l.mergeSort fun x y => decide (x ≤ y))).length
theorem imagesN_nil : imagesN [] = 0 := by
 simp [imagesN, List.mergeSort, Lib.compact]
 rfl
theorem images88_c (l : List Int) (hl : l.length ≤ 1000000) (tok : Tks) (nt : Nat) : DCall Tryz.prog 88 [.d (ints l)] tok nt (I (imagesN l)) tok nt := by
 refine DCall.of_below (Enters.mk Tryz.func88 rfl (by kernel_rfl)) rfl fun G w vals hr => ?_
 obtain ⟨hlen, hrv⟩ := hr
 match vals, hlen with
 | [v], _ =>
  have h0 := hrv 0 (by simp) (by simp)
  simp only [List.getElem_cons_zero] at h0
  cases h0 with
  | d h0 =>
   obtain ⟨A, cap, rfl, hcap, hmax, hA, hc⟩ := rvd_ints h0
   cases A with
   | none =>
    have : l = [] := by
     by_cases e : l = []
     ·exact e
     ·obtain ⟨a, ha⟩ := hA e; cases ha
    subst this
    exact (YtfgcpmeadeehhaaGreat.images.none _ cap w).mono fun e w' h => by rw [imagesN_nil]; exact h
   | some a =>
    by_cases e : l = []
    ·subst e
     exact (YtfgcpmeadeehhaaGreat.images.zero a cap w).mono fun e w' h => by rw [imagesN_nil]; exact h
    ·have hp : 0 < l.length := List.length_pos_iff.2 e
     have hc' := hc a rfl
     have hs : a.spot = none := by
      cases hsp : a.spot with
      | none => rfl
      | some q =>
       exfalso
       have := hc' 0 hp
       simp only [World.cell?, Addr.add, hsp, Option.isSome_some, ↓reduceIte] at this
       split at this <;> simp at this
     obtain ⟨b, off, sp⟩ := a
     simp only at hs
     subst hs
     refine (YtfgcpmeadeehhaaGreat.images.any b off l.length cap l w rfl (by omega) fun j hj => ?_).mono fun e w' h => h
     have h1 := hc' j hj
     unfold Addr.add at h1
     split at h1
     ·rename_i e; subst e; exact h1
     ·exact h1
end Go.AM
namespace Go.AM
open Go
variable {P : Program}
inductive Bo (box : Bxs) : AV → AV → Prop
 | same {x} (h : OkIn (fun _ => False) (fun _ => True) x) : Bo box x x
 | msl {k sz : Nat} {es : List (List D)} (hk : box k = some (rowsD es)) : Bo box (.msl k 0 es.length sz) (.d (.sl sz es))
def BoL (box : Bxs) : List AV → List AV → Prop
 | [], [] => True
 | x :: a, y :: b => Bo box x y ∧ BoL box a b
 | _, _ => False
theorem Bo.ext {box box' : Bxs} (he : Ext box box') {x y : AV} (h : Bo box x y) : Bo box' x y := by
 cases h with
 | same h => exact .same h
 | msl h => exact .msl (he _ _ h)
theorem BoL.ext {box box' : Bxs} (he : Ext box box') : ∀ {a b : List AV}, BoL box a b → BoL box' a b
 | [], [], _ => trivial
 | x :: a, y :: b, h => ⟨h.1.ext he, BoL.ext he h.2⟩
 | [], _ :: _, h => h.elim
 | _ :: _, [], h => h.elim
def Gh.lend (G : Gh) (p : Nat → Prop) [DecidablePred p] : Gh := { bx := fun _ => none, kind := fun b => if p b then .whole else G.kind b, tk := G.tk, nt := G.nt }
theorem lend_ps {G : Gh} {p : Nat → Prop} [DecidablePred p] {a : Addr} (h : G.ps a) : (G.lend p).ps a := by
 unfold Gh.ps at h ⊢
 simp only [Gh.lend]
 by_cases e : p a.block
 ·simp [e]
 ·simp only [e, ↓reduceIte]; exact h
theorem RV.lend {G : Gh} {w : World} {p : Nat → Prop} [DecidablePred p] (hp : ∀ b, p b → G.kind b = .box) {x : AV} {v : Value} (h : RV G w x v) (ho : OkIn (fun _ => False) (fun _ => True) x) : RV (G.lend p) w x v := by
 have hc : ∀ (a : Addr) (u : Value), G.ps a → w.cell? a = some u → (G.lend p).ps a ∧ w.cell? a = some u := fun a u h1 h2 => ⟨lend_ps h1, h2⟩
 have hk : ∀ g, G.kind g ≠ .box → (G.lend p).kind g = G.kind g := fun g hg => by
  simp only [Gh.lend]
  rw [if_neg fun e => hg (hp g e)]
 induction h with
 | bot => exact .bot
 | d h1 => exact .d (h1.mono hc)
 | osl h1 h2 =>
  refine .osl (h1.mono hc) ?_
  rename_i o _
  cases o with
  | full => exact h2
  | tok t =>
   refine ⟨h2.1, fun y hy => ?_⟩
   have := h2.2 y hy
   cases y with
   | none => exact this
   | some g =>
    obtain ⟨cap, hv, hg⟩ := this
    exact ⟨cap, hv, (hk g (by rw [hg]; intro e; cases e)).trans hg⟩
 | ptr h1 => cases ho with | ptr h => exact h.elim
 | here h1 h2 => cases ho with | here h => exact h.elim
 | buf h1 h2 h3 h4 =>
  refine .buf (h1.mono hc) ⟨h2.1, fun y hy => ?_⟩ h3 h4
  have := h2.2 y hy
  cases y with
  | none => exact this
  | some g =>
   obtain ⟨cap, hv, hg⟩ := this
   exact ⟨cap, hv, (hk g (by rw [hg]; intro e; cases e)).trans hg⟩
 | cptr a u h1 h2 => exact .cptr a u (fun j hj => hc _ _ (h1 j hj).1 (h1 j hj).2) fun j hj => (h2 j hj).mono hc
 | msl h1 => cases ho with | msl h => exact h.elim
 | fn hl _ ih => cases ho with | fn h => exact .fn hl fun i h1 h2 => ih i h1 h2 (h _ (List.getElem_mem h1))
 | agg hl _ hone ih => cases ho with | agg h => exact .agg hl (fun i h1 h2 => ih i h1 h2 (h _ (List.getElem_mem h1))) hone
 | tup hl _ ih => cases ho with | tup h => exact .tup hl fun i h1 h2 => ih i h1 h2 (h _ (List.getElem_mem h1))
 | ex h1 =>
  obtain ⟨r1, r0, r2⟩ := h1
  refine .ex ⟨r1, r0, fun y hy => ?_⟩
  obtain ⟨g, cap, cs, e, rfl, h2, h3, h4, h5, h6, h7, h8, h9, h10⟩ := r2 y hy
  exact ⟨g, cap, cs, e, rfl, h2, h3, h4, (hk g (by rw [h5]; intro e; cases e)).trans h5, h6, h7, h8, fun i g1 g2 => (h9 i g1 g2).mono hc, h10⟩
theorem Bo.lend {G : Gh} {m : AMem} {w : World} {p : Nat → Prop} [DecidablePred p] (hm : RelM G m w) (hp : ∀ b, p b ↔ ∃ k sz, G.bx k = some (b, sz)) {x y : AV} {v : Value} (hb : Bo m.box x y) (h : RV G w x v) : RV (G.lend p) w y v := by
 have hpb : ∀ b, p b → G.kind b = .box := fun b hb => by
  obtain ⟨k, sz, h⟩ := (hp b).1 hb
  exact (hm.blt h).2
 cases hb with
 | same ho => exact h.lend hpb ho
 | @msl k sz es hk =>
  letI : DecidablePred (fun _ : Nat => False) := fun _ => Classical.propDecidable _
  generalize hx : (AV.msl k 0 es.length sz) = x at h
  have h' := h
  cases h with
  | @msl k' off n b sz' cap h1 h2 h3 =>
   cases hx
   have hw : RV (G.weak (fun _ => False) (some b) G.nt) w (.d (.sl sz es)) (.slice (some ⟨b, 0 * sz, none⟩) es.length cap) := by
    refine RV.to (q := fun _ => True) (fz := some (k, sz, es)) hm (fun j hj => by cases hj; exact (hm.blt h1).2) ?_ ?_ h' (.frz rfl) (fun t _ ht => ht)
    ·intro k2 sz2 es2 e
     cases e
     obtain ⟨_, cs, e', _, hs, _⟩ := hm.box k (rowsD es) b sz hk h1
     refine ⟨rowsD es, hk, by simp, hs, fun i g1 g2 => ?_⟩
     have : (rowsD es)[i] = (es[i]).map AV.d := by simp [rowsD]
     rw [this]
     exact toDs_map _
    ·intro k2 sz2 es2 e j s hj
     cases e
     rw [h1] at hj
     cases hj
     rfl
   cases hw with
   | d hd =>
    refine .d (hd.mono fun a u h4 h5 => ⟨?_, h5⟩)
    unfold Gh.ps at h4 ⊢
    simp only [Gh.weak, Gh.lend] at h4 ⊢
    by_cases e : p a.block
    ·simp [e]
    ·simp only [e, ↓reduceIte]
     have hne : ¬ (some b = some a.block) := fun e2 => e ((hp _).2 ⟨k, sz, by cases e2; exact h1⟩)
     simp only [hne, ↓reduceIte] at h4
     exact h4
  | _ => cases hx
theorem BoL.lend {G : Gh} {m : AMem} {w : World} {p : Nat → Prop} [DecidablePred p] (hm : RelM G m w) (hp : ∀ b, p b ↔ ∃ k sz, G.bx k = some (b, sz)) : ∀ {xs ys : List AV} {vs : List Value}, BoL m.box xs ys → RVs G w xs vs → RVs (G.lend p) w ys vs
 | [], [], vs, _, h => ⟨by have := h.1; simpa using this, fun i h => by simp at h⟩
 | x :: a, y :: b, vs, hb, h => by
  obtain ⟨v, us, rfl, h1, h2⟩ := h.uncons
  exact RVs.cons (hb.1.lend hm hp h1) (BoL.lend hm hp hb.2 h2)
 | [], _ :: _, _, h, _ => h.elim
 | _ :: _, [], _, h, _ => h.elim
theorem RCall.lent {f : FuncId} {args args' : List AV} {box : Bxs} {tok : Nat → Bool} {nt : Nat} {u : Value} {tok' : Nat → Bool} {nt' : Nat} (hu : u.oneCell' = true)
  (h : DCall P f args' tok nt (.d (.raw u)) tok' nt') (hb : BoL box args args') : RCall P f args box tok nt (.d (.raw u)) tok' nt' := by
 classical
 intro box' nb hext
 have hb' := hb.ext hext
 obtain ⟨hen, hc⟩ := h (fun _ => none) nb
 refine ⟨hen, fun G w vals hm hr => ?_⟩
 let p : Nat → Prop := fun b => ∃ k sz, G.bx k = some (b, sz)
 have hp : ∀ b, p b ↔ ∃ k sz, G.bx k = some (b, sz) := fun b => Iff.rfl
 have hpb : ∀ b, p b → b < w.heap.size ∧ G.kind b = .box := fun b ⟨k, sz, hk⟩ => hm.blt hk
 have htk : ∀ t g, G.tk t = some (some g) → ¬ p g := fun t g ht hpg => by
  obtain ⟨f', cur, e, h1, _⟩ := hm.tokb t g ht
  rw [(hpb g hpg).2] at h1
  rcases h1 with h1 | h1 <;> cases h1
 have hm1 : RelM (G.lend p) ⟨fun _ => none, nb, tok, nt⟩ w := by
  constructor
  case box => intro k rows b sz h1; cases h1
  case nobox => intro k _; rfl
  case inj => intro k k' b sz sz' h1; cases h1
  case nb => intro k _; rfl
  case nt => exact hm.nt
  case toks => exact hm.toks
  case tokb =>
   intro t g ht
   obtain ⟨f', cur, e, h1, h2⟩ := hm.tokb t g ht
   refine ⟨f', cur, e, ?_, h2⟩
   simp only [Gh.lend]
   rw [if_neg (htk t g ht)]
   exact h1
  case tinj => exact hm.tinj
  case tnt => exact hm.tnt
  case fresh =>
   intro b hb1
   simp only [Gh.lend]
   split
   ·rfl
   ·exact hm.fresh b hb1
 refine Calls.mono (hc (G.lend p) w vals hm1 (hb'.lend hm hp hr)) ?_
 rintro e w' ⟨v, av, m', G1, rfl, ⟨rfl, rfl⟩, h3, h4, h5, h6, h7⟩
 have hv : v = u := by cases h5 with | d h => cases h; rfl
 subst hv
 have hkeep : ∀ b, p b → G1.kind b = .whole ∧ w'.heap[b]? = w.heap[b]? := fun b hb1 => h6.whole b (hpb b hb1).1 (by simp [Gh.lend, hb1])
 let G2 : Gh := { bx := G.bx, kind := fun b => if p b then .box else G1.kind b, tk := G1.tk, nt := G1.nt }
 have hle : Le G w G2 w' := by
  refine ⟨h6.os, h6.tape, h6.output, h6.size, fun b hb1 hk => ?_, fun b f' c hk => ?_, fun _ _ h => h, h6.nt, fun t ht => ?_, ?_⟩
  ·have hn : ¬ p b := fun e => by rw [(hpb b e).2] at hk; cases hk
   obtain ⟨a1, a2⟩ := h6.whole b hb1 (by simp only [Gh.lend]; rw [if_neg hn]; exact hk)
   exact ⟨by simp only [G2]; rw [if_neg hn]; exact a1, a2⟩
  ·have hn : ¬ p b := fun e => by rw [(hpb b e).2] at hk; cases hk
   obtain ⟨⟨f2, a1, a2⟩, a3⟩ := h6.part b f' c (by simp only [Gh.lend]; rw [if_neg hn]; exact hk)
   exact ⟨⟨f2, a1, by simp only [G2]; rw [if_neg hn]; exact a2⟩, a3⟩
  ·rcases h6.tk t ht with a1 | ⟨a1, a2⟩
   ·exact .inl a1
   ·refine .inr ⟨a1, fun g hg => ?_⟩
    have hn := htk t g hg
    obtain ⟨b1, b2⟩ := a2 g hg
    simp only [Gh.lend] at b1 b2
    rw [if_neg hn] at b1 b2
    exact ⟨by simp only [G2]; rw [if_neg hn]; exact b1, b2⟩
  ·exact h6.ty
 refine ⟨v, _, _, G2, rfl, ⟨rfl, rfl⟩, rfl, ?_, .d (.raw hu), hle, fun k hk => ⟨hk, rfl⟩⟩
 constructor
 case box =>
  intro k rows b sz hk hb1
  obtain ⟨g1, cs, e, g2, g3, g4, g5⟩ := hm.box k rows b sz hk hb1
  have hpk : p b := ⟨k, sz, hb1⟩
  exact ⟨by simp [G2, hpk], cs, e, (hkeep b hpk).2.trans g2, g3, g4.mono hle, g5⟩
 case nobox => exact hm.nobox
 case inj => exact hm.inj
 case nb => exact hm.nb
 case nt => exact h4.nt
 case toks => exact h4.toks
 case tokb =>
  intro t g ht
  obtain ⟨f', cur, e, g1, g2⟩ := h4.tokb t g ht
  refine ⟨f', cur, e, ?_, g2⟩
  have hn : ¬ p g := fun hpg => by
   rw [(hkeep g hpg).1] at g1
   rcases g1 with g1 | g1 <;> cases g1
  simp only [G2]
  rw [if_neg hn]
  exact g1
 case tinj => exact h4.tinj
 case tnt => exact h4.tnt
 case fresh =>
  intro b hb1
  have := h6.size
  have hn : ¬ p b := fun hpb1 => by have := (hpb b hpb1).1; omega
  simp only [G2]
  rw [if_neg hn]
  exact h4.fresh b hb1
end Go.AM
namespace Go.AM
open Go Go.Proofs Go.RowKit
theorem rvd_owns {G : Gh} {w w' : World} {m : AMem} (hm : RelM G m w) {v : Value} {xs : List Int} (h : w'.ownsRow w.heap.size 3 1 v xs.length (xs.map (Value.int .i64))) : RVd w'.cell? G.ps (ints xs) v := by
 rcases h.2 with ⟨rfl, h0⟩ | ⟨g, cap, cur, rfl, hb, hg, h1, h2, h3, h4⟩
 ·obtain rfl : xs = [] := List.length_eq_zero_iff.1 h0
  exact .sl (es := []) (fun _ _ => default) (Nat.le_refl _) (by decide) (by simp) (by simp) (by simp) (by simp)
 ·have hl : xs.length = (xs.map fun n => [D.raw (.int .i64 n)]).length := by simp
  have hat : ∀ i, i < xs.length → cur[i]? = some (.int .i64 (xs.getD i 0)) := fun i hi => by
   have e : (cur.toList.take (xs.length * 1))[i]? = (xs.map (Value.int .i64))[i]? := by rw [h4]
   rw [List.getElem?_take, if_pos (by omega), Array.getElem?_toList, List.getElem?_map, List.getElem?_eq_getElem hi] at e
   rw [e]
   simp [hi]
  unfold ints
  conv => rhs; rw [hl]
  refine .sl (fun i _ => .int .i64 (xs.getD i 0)) (by simpa using h1) h2 (fun e he => ?_) (fun _ => ⟨_, rfl⟩) (fun a ha i j hi hj => ?_) (fun i j hi hj => ?_)
  ·obtain ⟨y, _, rfl⟩ := List.mem_map.1 he
   rfl
  ·cases ha
   have hi' : i < xs.length := by simpa using hi
   have hj0 : j = 0 := by omega
   subst hj0
   refine ⟨?_, ?_⟩
   ·unfold Gh.ps
    have hbl : (Addr.add ⟨g, 0, none⟩ (i * 1 + 0)).block = g := by unfold Addr.add; split <;> rfl
    rw [hbl, hm.fresh g hb]
    trivial
   ·have ha : Addr.add ⟨g, 0, none⟩ (i * 1 + 0) = ⟨g, i, none⟩ := by
     unfold Addr.add
     split
     ·rename_i h0; congr 1; omega
     ·simp
    rw [ha]
    simp only [World.cell?, hg, Option.isSome_none, Bool.false_eq_true, if_false]
    exact hat i hi'
  ·simp only [List.length_map] at hi
   simp only [List.getElem_map, List.length_cons, List.length_nil] at hj ⊢
   have hj0 : j = 0 := by omega
   subst hj0
   have e : xs.getD i 0 = xs[i] := by simp [hi]
   simp only [List.getElem_cons_zero, e]
   exact .raw rfl
theorem rowsI_flat : ∀ xs : List Int, (rowsI xs).flatten = xs.map fun n => AV.d (.raw (.int .i64 n))
 | [] => rfl
 | x :: xs => by
  have : rowsI (x :: xs) = [AV.d (.raw (.int .i64 x))] :: rowsI xs := rfl
  rw [this, List.flatten_cons, rowsI_flat xs]
  rfl
theorem box_ints {G : Gh} {m : AMem} {w : World} (hm : RelM G m w) {k b sz : Nat} {xs : List Int} (hk : m.box k = some (rowsI xs)) (hb : G.bx k = some (b, sz)) (h1 : sz = 1) : ∀ j, j < xs.length → w.cell? ⟨b, 0 + j, none⟩ = some (.int .i64 (xs.getD j 0)) := by
 subst h1
 intro j hj
 obtain ⟨_, cs, e, hh, hs, hR, _⟩ := hm.box k _ b 1 hk hb
 rw [Nat.zero_add, cell_of_row w b _ cs e (0, 0) hh]
 rw [rowsI_flat] at hR
 obtain ⟨v, hv, hrv⟩ := hR.get (i := j) (x := AV.d (.raw (.int .i64 xs[j]))) (by simp [hj])
 have : v = .int .i64 xs[j] := by cases hrv with | d h => cases h; rfl
 subst this
 have hv' : cs[j]? = some (.int .i64 xs[j]) := by simpa using hv
 rw [hv']
 simp [hj]
theorem cloneM_c (xs : List Int) (hx : xs.length ≤ 1000000) (box : Bxs) (k : Nat) (hk : box k = some (rowsI xs)) (tok : Tks) (nt : Nat) :
  RCall Tryz.prog 58 [.msl k 0 xs.length 1] box tok nt (.d (ints xs)) tok nt := by
 intro box' nb he
 have hk' := he _ _ hk
 refine ⟨Enters.mk Tryz.func58 rfl (by kernel_rfl), fun G w vals hm hr => ?_⟩
 obtain ⟨hlen, hrv⟩ := hr
 match vals, hlen with
 | [v], _ =>
  have h0 := hrv 0 (by simp) (by simp)
  simp only [List.getElem_cons_zero] at h0
  generalize hq : (AV.msl k 0 xs.length 1) = q at h0
  cases h0 with
  | @msl k1 off n b sz cap h1 h2 h3 =>
   cases hq
   have hc := box_ints hm hk' h1 rfl
   rw [Nat.zero_mul]
   by_cases e : xs = []
   ·subst e
    refine (Tryz.slices_Clone_int_zero ⟨b, 0, none⟩ cap w).mono ?_
    rintro e w' ⟨v, rfl, hown, hnn, hb⟩
    exact ⟨v, _, _, G, rfl, ⟨rfl, rfl⟩, rfl, relM_below hm hb, .d (rvd_owns hm hown), le_below hm hb, fun k hk => ⟨hk, rfl⟩⟩
   ·have := Tryz.slices_Clone_int b 0 xs.length cap xs w (Nat.le_refl _) (by omega) hc
    rw [List.take_length] at this
    refine this.mono ?_
    rintro e w' ⟨v, rfl, hown, hnn, hb⟩
    exact ⟨v, _, _, G, rfl, ⟨rfl, rfl⟩, rfl, relM_below hm hb, .d (rvd_owns hm hown), le_below hm hb, fun k hk => ⟨hk, rfl⟩⟩
  | _ => cases hq
theorem containsM_c (xs : List Int) (v : Int) (hx : xs.length ≤ 1000000) (box : Bxs) (k : Nat) (hk : box k = some (rowsI xs)) (tok : Tks) (nt : Nat) :
  RCall Tryz.prog 55 [.msl k 0 xs.length 1, I v] box tok nt (B (decide (v ∈ xs))) tok nt := by
 refine RCall.lent rfl (contains_c xs v hx tok nt) ⟨?_, .same .d, trivial⟩
 have h : (rI xs).length = xs.length := by simp
 have h2 : box k = some (rowsD (rI xs)) := by rw [hk, rowsI_eq]
 have := Bo.msl (sz := 1) h2
 rw [h] at this
 exact this
end Go.AM
namespace Go.AM
open Go Go.Proofs
def imgK (n : Nat) (by' m : List Int) : Nat → List Int
 | 0 => List.replicate n (-1)
 | i + 1 => (imgK n by' m i).set (by'.getD i 0).toNat (m.getD i 0)
theorem imgK_len (n : Nat) (by' m : List Int) : ∀ i, (imgK n by' m i).length = n
 | 0 => by simp [imgK]
 | i + 1 => by simp [imgK, imgK_len n by' m i]
def stIm (n : Nat) (by' m : List Int) (nb : Nat) (box : Bxs) (tok : Tks) (nt : Nat) (i : Nat) : AState :=
 ⟨tl [(13, .d (ints by')), (14, I by'.length), (15, I i), (7, .msl (nb + 7) 0 n 1), (2, .d (ints m))], lb nb box [(7, rowsI (imgK n by' m i))], tok, nt⟩
theorem rI_len (xs : List Int) : (rI xs).length = xs.length := by simp
theorem Trans.thawI {cx : Cx} {nt0 nt : Nat} {l l' : List (Nat × AV)} {out : Bxs} {loc loc' : List (Nat × List (List AV))} {tok : Nat → Bool} (t s : Nat) (xs : List Int) (r : Nat)
  (hn : cx.nb = cx.base + cx.n) (hs : s < cx.n) (hk : lk loc s = none) (ht : tok t = true) (hr : tl l r = .ex t 1 (rI xs))
  (hl : ThL t (cx.base + s) 1 (rI xs) l l') (hb : ThB t (cx.base + s) 1 (rI xs) loc loc') :
  Trans cx nt0 ⟨tl l, lb cx.base out loc, tok, nt⟩ ⟨tl l', lb cx.base out ((s, rowsI xs) :: loc'), upd tok t false, nt⟩ := by
 rw [rowsI_eq]
 exact Trans.thaw t s 1 (rI xs) r hn hs hk ht hr hl hb
theorem Trans.sealI {cx : Cx} {nt0 nt : Nat} {l l' : List (Nat × AV)} {out : Bxs} {loc loc' : List (Nat × List (List AV))} {tok : Nat → Bool} (s : Nat) (xs : List Int) (r : Nat)
  (ho : out = cx.B0) (hnt : nt0 ≤ nt) (hr : tl l r = .msl (cx.base + s) 0 xs.length 1) (hk' : lk loc' s = none)
  (hl : SeL nt (cx.base + s) 1 (rI xs) l l') (hb : SeB nt (cx.base + s) 1 (rI xs) loc loc') :
  Trans cx nt0 ⟨tl l, lb cx.base out ((s, rowsI xs) :: loc), tok, nt⟩ ⟨tl l', lb cx.base out loc', upd tok nt true, nt + 1⟩ := by
 rw [rowsI_eq]
 exact Trans.seal s 1 (rI xs) r ho hnt (by simp) (by rw [rI_len]; exact hr) hk' hl hb
theorem thTo_exI {t k n : Nat} {xs : List Int} (h : n = xs.length) : ThTo t k 1 (rI xs) (.ex t 1 (rI xs)) (.msl k 0 n 1) := by
 have : n = (rI xs).length := by rw [rI_len]; exact h
 rw [this]; exact .ex
theorem seTo_mslI {t k n : Nat} {xs : List Int} (h : n = xs.length) : SeTo t k 1 (rI xs) (.msl k 0 n 1) (.ex t 1 (rI xs)) := by
 have : n = (rI xs).length := by rw [rI_len]; exact h
 rw [this]; exact .msl
theorem images69_c (n : Nat) (by' m : List Int) (hn : n ≤ 1000000) (hb : by'.length ≤ 1000000) (hm : by'.length ≤ m.length) (hk : ∀ k ∈ by', 0 ≤ k ∧ k < n) (tok : Tks) (nt : Nat) :
  DCall Tryz.prog 148 [I n, .d (ints by'), .d (ints m)] tok nt (.ex (nt + 1) 1 (rI (imgK n by' m by'.length))) (upd tok (nt + 1) true) (nt + 2) := by
 intro box nb
 refine sB Tryz.func148 Tryz.ntmps148 ?_
 intro hbox htok
 simp only at hbox htok
 apply AL.start
 refine sR ?_
 simp
 refine sR ?_
 simp
 refine Stop.data ?_
 refine Stop.of_d (repeat85_c (-1) n hn _ _) ?_
 simp
 refine sR ?_
 simp
 refine sN ?_
 refine AL.weak (Weaks.mk (l' := [(13, .d (ints by')), (14, I by'.length), (15, I 0), (7, .ex nt 1 (rI (List.replicate n (-1)))), (2, .d (ints m))]) (loc' := []) (Nat.le_succ _) rfl (by simp [ToL]) (by simp [BoxL])) ?_
 refine AL.trans (Trans.thawI (l' := [(13, .d (ints by')), (14, I by'.length), (15, I 0), (7, .msl (nb + 7) 0 n 1), (2, .d (ints m))]) (loc' := []) nt 7 (List.replicate n (-1)) 7 rfl (by show 7 < 29; decide) rfl (upd_same _ _ _) rfl
  ⟨rfl, .same, rfl, .same, rfl, .same, rfl, thTo_exI (by simp), rfl, .same, trivial⟩ trivial) ?_
 have htt : ∀ t, tok t = true → upd (upd tok nt true) nt false t = true := fun t ht => by
  have := htok t ht
  rw [upd_other _ _ (by omega), upd_other _ _ (by omega)]; exact ht
 generalize upd (upd tok nt true) nt false = tok1 at *
 refine AL.loopT (stIm n by' m nb box tok1 (nt + 1)) (fun i => i ≤ by'.length) (fun i => by'.length - i) 0 (Nat.zero_le _) (Weaks.mk (Nat.le_succ _) rfl (by simp [ToL, lk]) (by simp [BoxL, lk, imgK])) ?_
 rintro i S hi hS
 simp only [stIm] at hS
 subst hS
 have hw := sW (i := i) (by omega)
 have hlen := imgK_len n by' m i
 refine sR ?_
 simp
 refine sC ?_
 simp
 refine ⟨fun hlt => ?_, fun hge => ?_⟩
 ·obtain ⟨k1, k2⟩ := hk _ (List.getElem_mem hlt)
  have k3 : by'[i].toNat < n := by omega
  have him : i < m.length := by omega
  refine sR ?_
  simp [hlt]
  refine sR ?_
  simp [him, k1, k2, k3, hlen]
  refine sR ?_
  simp [hw]
  refine sE ?_
  exact ⟨i + 1, hlt, by omega, Weaks.mk (Nat.le_succ _) rfl (by simp [ToL, lk]) (by simp [BoxL, lk, imgK, hlt, him])⟩
 ·refine sX ?_
  simp only [AU, ↓reduceIte]
  have : i = by'.length := by omega
  subst this
  refine AL.weak (Weaks.mk (l' := [(7, .msl (nb + 7) 0 n 1)]) (loc' := [(7, rowsI (imgK n by' m by'.length))]) (Nat.le_succ _) rfl (by simp [ToL, lk]) (by simp [BoxL, lk])) ?_
  refine AL.trans (Trans.sealI (l' := [(7, .ex (nt + 1) 1 (rI (imgK n by' m by'.length)))]) (loc := []) (loc' := []) 7 (imgK n by' m by'.length) 7 rfl (Nat.le_succ _) (by rw [hlen]; rfl) rfl ⟨rfl, seTo_mslI hlen.symm, trivial⟩ trivial) ?_
  refine sR ?_
  simp
  refine sT ?_
  try simp only [AU]
  refine ⟨by simp, Fin.gen (by simp [resAs, resA]; rfl) hbox (by omega) (Nat.le_refl _) (fun t ht => ⟨?_, .inl rfl⟩) (fun k rows _ h => .inl h) (by simp [packA])⟩
  by_cases e : t = nt + 1
  ·subst e; exact upd_same _ _ _
  ·rw [upd_other _ _ e] at ht ⊢; exact htt t ht
end Go.AM
namespace Go.AM
open Go Go.Proofs
def wantX (p : Gr) (N : List Int) (i : Nat) : E := ⟨(p.edges.getD i default).ty, N.getD (p.edges.getD i default).fr.toNat 0, N.getD (p.edges.getD i default).to.toNat 0⟩
def edgeB (p g : Gr) (acc : Mo → Bool) (N : List Int) : Nat → List Int → Bool
 | 0, Es => acc ⟨N, Es⟩
 | n + 1, Es => if 0 ≤ Es.getD (p.edges.length - (n + 1)) 0 then edgeB p g acc N n Es
  else (List.range g.edges.length).any fun k => decide (g.edges.getD k default = wantX p N (p.edges.length - (n + 1))) && !decide ((k : Int) ∈ Es) && edgeB p g acc N n (Es.set (p.edges.length - (n + 1)) k)
abbrev exRow (p g : Gr) (kn n ke m : Nat) (f : FuncId) (caps : List AV) : List AV := [.d (ints p.nodes), .d (AM.edges p.edges), .d (ints g.nodes), .d (AM.edges g.edges), .msl kn 0 n 1, .msl ke 0 m 1, .fn (.func f) caps]
theorem cloneN_c (xs : List Int) {n : Nat} (hn : n = xs.length) (hx : xs.length ≤ 1000000) {box : Bxs} {k : Nat} (hk : box k = some (rowsI xs)) (tok : Tks) (nt : Nat) :
  RCall Tryz.prog 58 [.msl k 0 n 1] box tok nt (.d (ints xs)) tok nt := by subst hn; exact cloneM_c xs hx box k hk tok nt
theorem containsN_c (xs : List Int) (v : Int) {n : Nat} (hn : n = xs.length) (hx : xs.length ≤ 1000000) {box : Bxs} {k : Nat} (hk : box k = some (rowsI xs)) (tok : Tks) (nt : Nat) :
  RCall Tryz.prog 55 [.msl k 0 n 1, I v] box tok nt (B (decide (v ∈ xs))) tok nt := by subst hn; exact containsM_c xs v hx box k hk tok nt
structure ExH (p g : Gr) (f : FuncId) (caps : List AV) (kx kn ke : Nat) (E0 : Bxs) (N Es : List Int) (box : Bxs) : Prop where
 ext : Ext E0 box
 x : box kx = some [exRow p g kn p.nodes.length ke p.edges.length f caps]
 n : box kn = some (rowsI N)
 e : box ke = some (rowsI Es)
 nl : N.length = p.nodes.length
 el : Es.length = p.edges.length
structure ExF (p g : Gr) (kx kn ke : Nat) (E0 : Bxs) : Prop where
 fp : p.Fit
 fg : g.Fit
 pv : ∀ e ∈ p.edges, 0 ≤ e.fr ∧ e.fr < p.nodes.length ∧ 0 ≤ e.to ∧ e.to < p.nodes.length
 ne : kn ≠ ke
 nx : kn ≠ kx
 ex : ke ≠ kx
 e0 : E0 ke = none
 n0 : E0 kn = none
theorem ExH.setE {p g : Gr} {f : FuncId} {caps : List AV} {kx kn ke : Nat} {E0 : Bxs} {N Es E' : List Int} {box : Bxs} (hf : ExF p g kx kn ke E0) (h : ExH p g f caps kx kn ke E0 N Es box) (hl : E'.length = Es.length) :
  ExH p g f caps kx kn ke E0 N E' (upd box ke (some (rowsI E'))) := by
 refine ⟨fun k r hk => ?_, ?_, ?_, upd_same _ _ _, h.nl, hl.trans h.el⟩
 ·rw [upd_other _ _ (fun e => by rw [e, hf.e0] at hk; cases hk)]; exact h.ext k r hk
 ·rw [upd_other _ _ (Ne.symm hf.ex)]; exact h.x
 ·rw [upd_other _ _ hf.ne]; exact h.n
def QEd (b : Bool) (Es : List Int) (ke : Nat) (box : Bxs) (nb : Nat) (tok : Tks) (nt : Nat) (v : AV) (m : AMem) : Prop :=
 v = B b ∧ ∃ E' : List Int, E'.length = Es.length ∧ (b = false → E' = Es) ∧ m = ⟨upd box ke (some (rowsI E')), nb, tok, nt⟩
theorem outI {box : Bxs} {ke base : Nat} {E' : List Int} {p q : Nat → Prop} : ∀ k rows, k < base → (upd box ke (some (rowsI E'))) k = some rows → box k = some rows ∨ ∀ r ∈ rows, ∀ x ∈ r, OkIn p q x := by
 intro k rows _ hr
 by_cases e : k = ke
 ·subst e
  rw [upd_same] at hr
  cases hr
  refine .inr fun r hr x hx => ?_
  obtain ⟨n, _, rfl⟩ := List.mem_map.1 hr
  rw [List.mem_singleton] at hx
  subst hx
  exact .d
 ·rw [upd_other _ _ e] at hr
  exact .inl hr
theorem ExH.lb {p g : Gr} {f : FuncId} {caps : List AV} {kx kn ke nb : Nat} {E0 : Bxs} {N Es : List Int} {box : Bxs} (h : ExH p g f caps kx kn ke E0 N Es box) (hb : lb nb box [] = box) (loc : List (Nat × List (List AV))) :
  ExH p g f caps kx kn ke E0 N Es (AM.lb nb box loc) :=
 ⟨Ext.lb h.ext hb loc, by rw [lb_out (key_lt hb h.x)]; exact h.x, by rw [lb_out (key_lt hb h.n)]; exact h.n, by rw [lb_out (key_lt hb h.e)]; exact h.e, h.nl, h.el⟩
def candE (p g : Gr) (acc : Mo → Bool) (N : List Int) (r i : Nat) (Es : List Int) (k : Nat) : Bool :=
 decide (g.edges.getD k default = wantX p N i) && !decide ((k : Int) ∈ Es) && edgeB p g acc N r (Es.set i k)
theorem edgeB_no {p g : Gr} {acc : Mo → Bool} {N : List Int} {r i : Nat} {Es : List Int} (hi : p.edges.length - (r + 1) = i) (h0 : ¬ 0 ≤ Es.getD i 0) (h : ∀ j, j < g.edges.length → candE p g acc N r i Es j = false) : edgeB p g acc N (r + 1) Es = false := by
 rw [edgeB, hi, if_neg h0, List.any_eq_false]
 intro j hj
 have := h j (by simpa using hj)
 unfold candE at this
 rw [this]; simp
theorem edgeB_yes {p g : Gr} {acc : Mo → Bool} {N : List Int} {r i : Nat} {Es : List Int} (hi : p.edges.length - (r + 1) = i) (h0 : ¬ 0 ≤ Es.getD i 0) {j : Nat} (hj : j < g.edges.length) (h : candE p g acc N r i Es j = true) : edgeB p g acc N (r + 1) Es = true := by
 rw [edgeB, hi, if_neg h0, List.any_eq_true]
 exact ⟨j, by simpa using hj, h⟩
def NonN (l : List Int) (i : Nat) : Prop := ∀ j, j < i → 0 ≤ l.getD j 0
theorem NonN.succ {l : List Int} {i : Nat} (h : NonN l i) (hi : i < l.length) (h0 : 0 ≤ l[i]) : NonN l (i + 1) := fun j hj => by
 by_cases e : j = i
 ·subst e; simpa [hi] using h0
 ·exact h j (by omega)
theorem NonN.set {l : List Int} {i : Nat} (h : NonN l i) (hi : i < l.length) (k : Nat) : NonN (l.set i k) (i + 1) := fun j hj => by
 by_cases e : j = i
 ·subst e; simp [hi]
 ·have := h j (by omega)
  simpa [List.getD, List.getElem?_set, Ne.symm e] using this
theorem NonN.all {l : List Int} {i : Nat} (h : NonN l i) (hi : i = l.length) : ∀ x ∈ l, 0 ≤ x := fun x hx => by
 obtain ⟨j, hj, rfl⟩ := List.getElem_of_mem hx
 have := h j (by omega)
 simpa [hj] using this
def stEd (g : Gr) (W : E) (kx i : Nat) (nb : Nat) (box : Bxs) (tok : Tks) (nt : Nat) (k : Nat) : AState :=
 ⟨tl [(76, .d (AM.edges g.edges)), (77, I g.edges.length), (78, I k), (6, .ptr (nb + 6) 0 0), (0, .ptr kx 0 0), (1, I i)], lb nb box [(6, [[I W.ty, I W.fr, I W.to]])], tok, nt⟩
theorem edge86_c (p g : Gr) (acc : Mo → Bool) (N : List Int) (f : FuncId) (caps : List AV) (kx kn ke : Nat) (E0 : Bxs) (hf : ExF p g kx kn ke E0)
  (hcap : ∀ c ∈ caps, OkIn (fun k => E0 k ≠ none) (fun _ => True) c)
  (hacc : ∀ (q : Mo) box nb tok nt, Ext E0 box → q.nodes.length = p.nodes.length → q.edges.length = p.edges.length → (∀ x ∈ q.nodes, 0 ≤ x) → (∀ x ∈ q.edges, 0 ≤ x) → ACalls Tryz.prog f (q.av :: caps) ⟨box, nb, tok, nt⟩ fun v m => v = B (acc q) ∧ m = ⟨box, nb, tok, nt⟩) (hN : ∀ x ∈ N, 0 ≤ x) :
  ∀ (r i : Nat), i + r = p.edges.length → ∀ (Es : List Int) (box : Bxs) (nb : Nat) (tok : Tks) (nt : Nat), ExH p g f caps kx kn ke E0 N Es box → (∀ x ∈ Es, x < 0 → x = -1) → NonN Es i →
   ACalls Tryz.prog 208 [.ptr kx 0 0, I i] ⟨box, nb, tok, nt⟩ (QEd (edgeB p g acc N r Es) Es ke box nb tok nt)
 | 0, i, hir, Es, box, nb, tok, nt, h, hm, hnn => by
  refine sB Tryz.func208 Tryz.ntmps208 ?_
  intro hbox htok
  simp only at hbox htok
  apply AL.start
  have kxn := key_lt hbox h.x
  have knn := key_lt hbox h.n
  have ken := key_lt hbox h.e
  have hx := h.x
  have hn := h.n
  have he := h.e
  have hb1 : ((i : Int) == p.edges.length) = true := by rw [show i = p.edges.length by omega]; simp
  have hN1 := hf.fp.n
  have hE1 := hf.fp.e
  refine sR ?_
  simp
  refine sR ?_
  simp [lb_out kxn, hx, hb1]
  refine sC ?_
  simp
  refine sR ?_
  simp [lb_out kxn, hx]
  refine Stop.of_r (cloneN_c N h.nl.symm (by rw [h.nl]; exact hN1) (by simp only; rw [lb_out knn]; exact hn) _ _) ?_
  simp [lb_out kxn, hx]
  refine Stop.of_r (cloneN_c Es h.el.symm (by rw [h.el]; exact hE1) (by simp only; rw [lb_out ken]; exact he) _ _) ?_
  simp [lb_out kxn, hx]
  refine Stop.of_r (v := B (acc ⟨N, Es⟩)) (fun box' nb' hb' => hacc ⟨N, Es⟩ box' nb' _ _ (h.ext.trans (by rw [hbox] at hb'; exact hb')) h.nl h.el hN (hnn.all (by rw [h.el]; omega))) ?_
  simp [lb_out kxn, hx]
  refine sT ?_
  try simp only [AU]
  refine ⟨by simp, (Fin.data (av := B (acc ⟨N, Es⟩)) (by simp [resAs, resA]; rfl) hbox rfl htok (fun _ h => h) (Nat.le_refl _) (by simp [packA])).mono fun v m hq => ⟨hq.1, Es, rfl, fun _ => rfl, ?_⟩⟩
  rw [hq.2, upd_self _ _ _ he]
 | r + 1, i, hir, Es, box, nb, tok, nt, h, hm, hnn => by
  have ih := edge86_c p g acc N f caps kx kn ke E0 hf hcap hacc hN r (i + 1) (by omega)
  refine sB Tryz.func208 Tryz.ntmps208 ?_
  intro hbox htok
  simp only at hbox htok
  apply AL.start
  have kxn := key_lt hbox h.x
  have knn := key_lt hbox h.n
  have ken := key_lt hbox h.e
  have hx := h.x
  have hn := h.n
  have he := h.e
  have hL : ExH p g f caps kx kn ke E0 N Es (lb nb box []) := by rw [hbox]; exact h
  have hb1 : ((i : Int) == p.edges.length) = false := by simp; omega
  have hip : i < p.edges.length := by omega
  have hiE : i < Es.length := by rw [h.el]; exact hip
  have hw : IntKind.i64.wrap (↑i + 1) = ((i + 1 : Nat) : Int) := by have := hf.fp.e; rw [wrap_in (by omega) (by omega)]; rfl
  have hN1 := hf.fp.n
  have hE1 := hf.fp.e
  have hsub : p.edges.length - (r + 1) = i := by omega
  refine sR ?_
  simp
  refine sR ?_
  simp [lb_out kxn, hx, hb1]
  refine sC ?_
  simp
  refine sR ?_
  simp [lb_out kxn, hx, lb_out ken, he, hiE, hip]
  by_cases h0 : 0 ≤ Es[i]
  ·simp [h0]
   refine sC ?_
   simp
   refine sR ?_
   simp [hw]
   refine Stop.of_a (ih Es _ _ _ _ hL hm (hnn.succ hiE h0)) ?_
   rintro v m ⟨rfl, E', hl, hE', rfl⟩
   simp [upd_lb_out ken]
   refine sT ?_
   try simp only [AU]
   have hR : edgeB p g acc N (r + 1) Es = edgeB p g acc N r Es := by
    rw [edgeB, hsub, if_pos (by simpa [hiE] using h0)]
   refine ⟨by simp, (Fin.gen (av := B (edgeB p g acc N r Es)) (tok' := tok) (nt' := nt) (by simp [resAs, resA]; rfl) (by rw [← upd_lb_out ken, hbox]) (Nat.le_refl _) (Nat.le_refl _) (fun t ht => ⟨ht, .inl rfl⟩) outI (by simp [packA])).mono fun v m hq => ⟨by rw [hR]; exact hq.1, E', hl, by rw [hR]; exact hE', hq.2⟩⟩
  ·simp [h0]
   refine sC ?_
   simp
   obtain ⟨x1, x2, x3, x4⟩ := hf.pv _ (List.getElem_mem hip)
   have y1 : p.edges[i].fr.toNat < N.length := by rw [h.nl]; omega
   have y2 : p.edges[i].to.toNat < N.length := by rw [h.nl]; omega
   have z2 : p.edges[i].fr < (p.nodes.length : Int) := x2
   have z4 : p.edges[i].to < (p.nodes.length : Int) := x4
   refine sR ?_
   simp [lb_out kxn, hx, hip]
   refine sR ?_
   simp [lb_out kxn, hx, hip, lb_out knn, hn, x1, x2, x3, x4, y1, y2]
   refine sR ?_
   simp [lb_out kxn, hx]
   refine sN ?_
   have hW1 : (wantX p N i).ty = p.edges[i].ty := by simp [wantX, hip]
   have hW2 : (wantX p N i).fr = N[p.edges[i].fr.toNat] := by simp [wantX, hip, y1]
   have hW3 : (wantX p N i).to = N[p.edges[i].to.toNat] := by simp [wantX, hip, y2]
   have hno := edgeB_no (g := g) (acc := acc) (N := N) (Es := Es) hsub (by simpa [hiE] using h0)
   have hyes := fun j hj => edgeB_yes (g := g) (acc := acc) (N := N) (Es := Es) (j := j) hsub (by simpa [hiE] using h0) hj
   have hmi : Es[i] = -1 := hm _ (List.getElem_mem hiE) (by omega)
   refine AL.loopT (stEd g (wantX p N i) kx i nb box tok nt) (fun k => k ≤ g.edges.length ∧ ∀ j, j < k → candE p g acc N r i Es j = false) (fun k => g.edges.length - k) 0 ⟨Nat.zero_le _, fun j hj => absurd hj (Nat.not_lt_zero _)⟩ (Weaks.mk (Nat.le_refl _) rfl (by simp [ToL, lk]; exact to_ptr (by rw [lb_out kxn, hx]; simp)) (by simp [BoxL, lk, hW1, hW2, hW3])) ?_
   rintro k S ⟨hk, hall⟩ hS
   simp only [stEd] at hS
   subst hS
   obtain ⟨W, hWd⟩ : ∃ W, wantX p N i = W := ⟨_, rfl⟩
   rw [hWd] at hW1 hW2 hW3
   rw [hWd]
   have hge := hf.fg.e
   have hwk := sW (i := k) (by omega)
   refine sR ?_
   simp
   refine sC ?_
   simp
   refine ⟨fun hlt => ?_, fun hgek => ?_⟩
   ·have hg1 : g.edges.getD k default = g.edges[k] := by simp [hlt]
    have hcand : candE p g acc N r i Es k = (decide (g.edges[k] = W) && !decide ((k : Int) ∈ Es) && edgeB p g acc N r (Es.set i k)) := by
     unfold candE; rw [hg1, hWd]
    refine sR ?_
    simp [hlt]
    generalize g.edges[k] = z at *
    refine sR ?_
    simp [E.eq_and]
    by_cases hz : z = W
    ·simp [hz, lb_out kxn, hx]
     refine Stop.of_r (containsN_c Es k h.el.symm (by rw [h.el]; exact hE1) (by simp only; rw [lb_out ken]; exact he) _ _) ?_
     by_cases hk' : (k : Int) ∈ Es
     ·simp [hk']
      refine sC ?_
      simp
      refine sX ?_
      simp only [AU, ↓reduceIte]
      refine sR ?_
      simp [hwk]
      refine sE ?_
      refine ⟨k + 1, ⟨hlt, fun j hj => ?_⟩, by omega, Weaks.mk (Nat.le_refl _) rfl (by simp [ToL, lk]; exact to_ptr (by rw [lb_out kxn, hx]; simp)) (by simp [BoxL, lk])⟩
      by_cases e : j = k
      ·subst e; rw [hcand]; simp [hk']
      ·exact hall j (by omega)
     ·simp [hk']
      refine sC ?_
      simp
      have hle : (Es.set i k).length = Es.length := by simp
      have hH2 := h.setE hf hle
      have hbox2 : AM.lb nb (upd box ke (some (rowsI (Es.set i k)))) [] = upd box ke (some (rowsI (Es.set i k))) := by rw [← upd_lb_out ken, hbox]
      have hm2 : ∀ x ∈ Es.set i (k : Int), x < 0 → x = -1 := fun x hx hneg => by
       rcases List.mem_or_eq_of_mem_set hx with h1 | h1
       ·exact hm x h1 hneg
       ·omega
      refine sR ?_
      simp [lb_out kxn, hx, hip, hiE, lb_out ken, he, upd_lb_out ken]
      refine sR ?_
      simp [hw]
      refine Stop.of_a (ih (Es.set i k) _ _ _ _ (hH2.lb hbox2 _) hm2 (hnn.set hiE k)) ?_
      rintro v m ⟨rfl, E', hl, hE', rfl⟩
      simp [upd_lb_out ken, upd_upd]
      have hl' : E'.length = Es.length := by rw [hl]; simp
      have hx2 : (upd box ke (some (rowsI E'))) kx = box kx := upd_other _ _ (Ne.symm hf.ex)
      by_cases hr : edgeB p g acc N r (Es.set i k) = true
      ·have hR := hyes k hlt (by rw [hcand, hr]; simp [hz, hk'])
       simp [hr]
       refine sC ?_
       simp
       refine sR ?_
       simp
       refine sT ?_
       try simp only [AU]
       refine ⟨by simp, (Fin.gen (av := B true) (tok' := tok) (nt' := nt) (by simp [resAs, resA]; rfl) (by rw [← upd_lb_out ken, hbox]) (Nat.le_refl _) (Nat.le_refl _) (fun t ht => ⟨ht, .inl rfl⟩) outI (by simp [packA])).mono fun v m hq => ⟨by rw [hR]; exact hq.1, E', hl', by rw [hR]; simp, hq.2⟩⟩
      ·have hr' : edgeB p g acc N r (Es.set i k) = false := by simpa using hr
       have hEE := hE' hr'
       have hback : (E'.set i (-1)) = Es := by
        rw [hEE, List.set_set, ← hmi, List.set_getElem_self]
       have hiE' : i < E'.length := by rw [hl']; exact hiE
       simp [hr']
       refine sC ?_
       simp
       refine sR ?_
       simp [lb_out kxn, hx2, hx, hip, hiE', lb_out ken, upd_same, upd_lb_out ken, upd_upd, hback, upd_self _ _ _ he]
       refine sR ?_
       simp [hwk]
       refine sE ?_
       refine ⟨k + 1, ⟨hlt, fun j hj => ?_⟩, by omega, Weaks.mk (Nat.le_refl _) rfl (by simp [ToL, lk]; exact to_ptr (by rw [lb_out kxn, hx]; simp)) (by simp [BoxL, lk])⟩
       by_cases e : j = k
       ·subst e; rw [hcand, hr']; simp
       ·exact hall j (by omega)
    ·simp [hz]
     refine sC ?_
     simp
     refine sX ?_
     simp only [AU, ↓reduceIte]
     refine sR ?_
     simp [hwk]
     refine sE ?_
     refine ⟨k + 1, ⟨hlt, fun j hj => ?_⟩, by omega, Weaks.mk (Nat.le_refl _) rfl (by simp [ToL, lk]; exact to_ptr (by rw [lb_out kxn, hx]; simp)) (by simp [BoxL, lk])⟩
     by_cases e : j = k
     ·subst e; rw [hcand]; simp [hz]
     ·exact hall j (by omega)
   ·refine sX ?_
    simp only [AU, ↓reduceIte]
    have hR := hno fun j hj => hall j (by omega)
    refine sR ?_
    simp
    refine sT ?_
    try simp only [AU]
    refine ⟨by simp, (Fin.data (av := B false) (by simp [resAs, resA]; rfl) hbox rfl htok (fun _ h => h) (Nat.le_refl _) (by simp [packA])).mono fun v m hq => ⟨by rw [hR]; exact hq.1, Es, rfl, fun _ => rfl, ?_⟩⟩
    rw [hq.2, upd_self _ _ _ he]
end Go.AM
