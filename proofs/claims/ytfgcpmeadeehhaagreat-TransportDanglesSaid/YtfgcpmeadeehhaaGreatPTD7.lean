/-
 Parts of the proof, as merged from many texts: a machine over data, what the functions compute, plain laws.
-/
import Derived.Test.YtfgcpmeadeehhaaGreatPTD6
import Derived.Test.YtfgcpmeadeehhaaGreatChecked
import Derived.RangeFuncBox
import Derived.RangeFuncLeaves
import Derived.Shelf.Abstract
import Derived.WalkKit
import Derived.OwnWalkIn
import Derived.TacticsInMore
import Derived.LoopNIn
import Derived.LoopIn
import Derived.Maps.AppendAt
import Derived.Sort.OwnSortedInts
import Derived.Lib.OwnBridge
import Derived.Sort.EveryDepth
import Derived.Shelf.Spec.SlicesGrow
set_option linter.unusedSimpArgs false
set_option linter.unusedVariables false
namespace Go.AM
open Go Go.Proofs
def stH7 (xs : List Int) (v : Int) (nb : Nat) (box : Bxs) (tok : Tks) (nt : Nat) (i : Nat) : AState := ⟨tl [(0, .d (ints xs)), (1, I v), (5, I i)], lb nb box [], tok, nt⟩
theorem has07_c (xs : List Int) (v : Int) (hx : xs.length ≤ 1000000) (tok : Tks) (nt : Nat) : DCall Tryz.prog 169 [.d (ints xs), I v] tok nt (B (decide (v ∈ xs))) tok nt := by
 intro box nb
 refine sB Tryz.func169 Tryz.ntmps169 ?_
 intro hbox htok
 simp only at hbox htok
 apply AL.start
 refine sR ?_
 simp
 refine sR ?_
 simp
 refine sN ?_
 refine AL.loopT (stH7 xs v nb box tok nt) (fun i => i ≤ xs.length ∧ v ∉ xs.take i) (fun i => xs.length - i) 0 ⟨Nat.zero_le _, by simp⟩ (Weaks.mk (Nat.le_refl _) rfl (by simp [ToL]) trivial) ?_
 rintro i S ⟨hi, htk⟩ hS
 simp only [stH7] at hS
 subst hS
 have hw := sW (i := i) (by omega)
 refine sR ?_
 simp
 refine sC ?_
 simp
 refine ⟨fun hlt => ?_, fun hge => ?_⟩
 ·refine sR ?_
  simp [hlt]
  refine sC ?_
  simp
  refine ⟨fun he => ?_, fun hne => ?_⟩
  ·refine sR ?_
   simp
   have hmem : v ∈ xs := by rw [← he]; exact List.getElem_mem _
   refine sT ?_
   try simp only [AU]
   refine ⟨by simp, sF hbox htok (fun _ h => h) (Nat.le_refl _) ?_⟩
   simp [packA, hmem]
  ·refine sR ?_
   simp [hw]
   refine sE ?_
   refine ⟨i + 1, ⟨hlt, ?_⟩, by omega, Weaks.mk (Nat.le_refl _) rfl (by simp [ToL]) trivial⟩
   rw [List.take_succ_eq_append_getElem hlt]
   simp only [List.mem_append, List.mem_singleton, not_or]
   exact ⟨htk, fun e => hne e.symm⟩
 ·refine sX ?_
  simp only [AU, ↓reduceIte]
  refine sR ?_
  simp
  have hn : v ∉ xs := by rwa [List.take_of_length_le hge] at htk
  refine sT ?_
  try simp only [AU]
  refine ⟨by simp, sF hbox htok (fun _ h => h) (Nat.le_refl _) ?_⟩
  simp [packA, hn]
def stI7 (xs : List Int) (v : Int) (nb : Nat) (box : Bxs) (tok : Tks) (nt : Nat) (i : Nat) : AState := ⟨tl [(0, .d (ints xs)), (1, I v), (5, I i)], lb nb box [], tok, nt⟩
theorem index07_c (xs : List Int) (v : Int) (hx : xs.length ≤ 1000000) (tok : Tks) (nt : Nat) : DCall Tryz.prog 105 [.d (ints xs), I v] tok nt (I (indexI xs v)) tok nt := by
 intro box nb
 refine sB Tryz.func105 Tryz.ntmps105 ?_
 intro hbox htok
 simp only at hbox htok
 apply AL.start
 refine sR ?_
 simp
 refine sR ?_
 simp
 refine sN ?_
 refine AL.loopT (stI7 xs v nb box tok nt) (fun i => i ≤ xs.length ∧ v ∉ xs.take i) (fun i => xs.length - i) 0 ⟨Nat.zero_le _, by simp⟩ (Weaks.mk (Nat.le_refl _) rfl (by simp [ToL]) trivial) ?_
 rintro i S ⟨hi, htk⟩ hS
 simp only [stI7] at hS
 subst hS
 have hw := sW (i := i) (by omega)
 refine sR ?_
 simp
 refine sC ?_
 simp
 refine ⟨fun hlt => ?_, fun hge => ?_⟩
 ·have hsp : xs = xs.take i ++ xs[i] :: xs.drop (i + 1) := by simp
  refine sR ?_
  simp [hlt]
  refine sC ?_
  simp
  refine ⟨fun he => ?_, fun hne => ?_⟩
  ·refine sR ?_
   simp
   have hmem : v ∈ xs := by rw [← he]; exact List.getElem_mem _
   have hid : xs.idxOf v = i := by
    unfold List.idxOf
    rw [List.findIdx_eq hlt]
    refine ⟨by simp [he], fun j hj => ?_⟩
    have : xs[j] ≠ v := fun e => htk (by rw [← e, List.mem_take_iff_getElem]; exact ⟨j, by omega, rfl⟩)
    simpa using this
   refine sT ?_
   try simp only [AU]
   refine ⟨by simp, sF hbox htok (fun _ h => h) (Nat.le_refl _) ?_⟩
   simp [packA, indexI, hmem, hid]
  ·refine sR ?_
   simp [hw]
   refine sE ?_
   refine ⟨i + 1, ⟨hlt, ?_⟩, by omega, Weaks.mk (Nat.le_refl _) rfl (by simp [ToL]) trivial⟩
   rw [List.take_succ_eq_append_getElem hlt]
   simp only [List.mem_append, List.mem_singleton, not_or]
   exact ⟨htk, fun e => hne e.symm⟩
 ·refine sX ?_
  simp only [AU, ↓reduceIte]
  refine sR ?_
  simp
  have hn : v ∉ xs := by rwa [List.take_of_length_le hge] at htk
  refine sT ?_
  try simp only [AU]
  refine ⟨by simp, sF hbox htok (fun _ h => h) (Nat.le_refl _) ?_⟩
  simp [packA, indexI, hn]
def stAs (l : List Int) (n : Int) (nb : Nat) (box : Bxs) (tok : Tks) (nt : Nat) (i : Nat) : AState := ⟨tl [(0, .d (ints l)), (1, I n), (5, I i)], lb nb box [], tok, nt⟩
theorem asc07_c (l : List Int) (n : Int) (hl : l.length ≤ 1000000) (tok : Tks) (nt : Nat) : DCall Tryz.prog 168 [.d (ints l), I n] tok nt (I (ascE l n)) tok nt := by
 intro box nb
 refine sB Tryz.func168 Tryz.ntmps168 ?_
 intro hbox htok
 simp only at hbox htok
 apply AL.start
 try (simp)
 repeat (refine sR ?_; simp)
 refine sN ?_
 refine AL.loopT (stAs l n nb box tok nt) (fun i => i ≤ l.length ∧ firstE (ascAt l n) i = 0) (fun i => l.length - i) 0 ⟨Nat.zero_le _, rfl⟩ (Weaks.mk (Nat.le_refl _) rfl (by simp [ToL]) trivial) ?_
 rintro i S ⟨hi, hok⟩ hS
 simp only [stAs] at hS
 subst hS
 have hw := sW (i := i) (by omega)
 have hR : i < l.length → ascAt l n i ≠ 0 → ascE l n = ascAt l n i := fun hlt h0 => firstE_stop hok h0 l.length hlt
 try (simp)
 repeat (refine sR ?_; simp)
 refine sC ?_
 simp
 refine ⟨fun hlt => ?_, fun hge => ?_⟩
 ·have hg : l.getD i 0 = l[i] := by simp [hlt]
  have hR := hR hlt
  have hA : ascAt l n i = if l[i] < 0 ∨ n ≤ l[i] then 6 else if 0 < i ∧ l[i] ≤ l.getD (i - 1) 0 then 12 else 0 := by rw [ascAt, hg]
  try (simp [hlt])
  repeat (refine sR ?_; simp [hlt])
  by_cases hneg : l[i] < 0
  ·try (simp [hneg, hlt])
   repeat (refine sR ?_; simp [hneg, hlt])
   refine sC ?_
   simp
   try (simp)
   repeat (refine sR ?_; simp)
   rw [hA, if_pos (.inl hneg)] at hR
   have hR := hR (by decide)
   refine sT ?_
   try simp only [AU]
   refine ⟨by simp, sF hbox htok (fun _ h => h) (Nat.le_refl _) ?_⟩
   simp [packA, hR]
  ·try (simp [hneg, hlt])
   repeat (refine sR ?_; simp [hneg, hlt])
   by_cases hbig : n ≤ l[i]
   ·simp only [hbig]
    refine sC ?_
    simp
    try (simp)
    repeat (refine sR ?_; simp)
    rw [hA, if_pos (.inr hbig)] at hR
    have hR := hR (by decide)
    refine sT ?_
    try simp only [AU]
    refine ⟨by simp, sF hbox htok (fun _ h => h) (Nat.le_refl _) ?_⟩
    simp [packA, hR]
   ·simp only [hbig]
    rw [if_neg (by omega)] at hA
    refine sC ?_
    simp
    by_cases h0 : 0 < i
    ·have hw' : IntKind.i64.wrap (↑i - 1) = ((i - 1 : Nat) : Int) := by rw [wrap_in (by omega) (by omega)]; omega
     have hlt' : i - 1 < l.length := by omega
     have hg' : l.getD (i - 1) 0 = l[i - 1] := by simp [hlt']
     rw [hg'] at hA
     try (simp [hlt, h0, hw', hlt'])
     repeat (refine sR ?_; simp [hlt, h0, hw', hlt'])
     by_cases hle : l[i] ≤ l[i - 1]
     ·rw [if_pos ⟨h0, hle⟩] at hA
      rw [hA] at hR
      have hR := hR (by decide)
      simp only [hle]
      refine sC ?_
      simp
      try (simp)
      repeat (refine sR ?_; simp)
      refine sT ?_
      try simp only [AU]
      refine ⟨by simp, sF hbox htok (fun _ h => h) (Nat.le_refl _) ?_⟩
      simp [packA, hR]
     ·rw [if_neg (by omega)] at hA
      simp only [hle]
      refine sC ?_
      simp
      try (simp [hw])
      repeat (refine sR ?_; simp [hw])
      refine sE ?_
      exact ⟨i + 1, ⟨hlt, by simp only [firstE, hok, hA, ↓reduceIte]⟩, by omega, Weaks.mk (Nat.le_refl _) rfl (by simp [ToL]) trivial⟩
    ·rw [if_neg (by omega)] at hA
     try (simp [hlt, h0])
     repeat (refine sR ?_; simp [hlt, h0])
     refine sC ?_
     simp
     try (simp [hw])
     repeat (refine sR ?_; simp [hw])
     refine sE ?_
     exact ⟨i + 1, ⟨hlt, by simp only [firstE, hok, hA, ↓reduceIte]⟩, by omega, Weaks.mk (Nat.le_refl _) rfl (by simp [ToL]) trivial⟩
 ·refine sX ?_
  simp only [AU, ↓reduceIte]
  try (simp)
  repeat (refine sR ?_; simp)
  have : i = l.length := by omega
  subst this
  refine sT ?_
  try simp only [AU]
  refine ⟨by simp, sF hbox htok (fun _ h => h) (Nat.le_refl _) ?_⟩
  simp [packA, ascE, hok]
def stRi (g : Gr) (p : Mo) (nb : Nat) (box : Bxs) (tok : Tks) (nt : Nat) (i : Nat) : AState :=
 ⟨tl [(7, I i), (3, .ptr (nb + 3) 0 0), (2, .ptr (nb + 2) 0 0)], lb nb box [(3, [[.d (ints p.nodes), .d (ints p.edges)]]), (2, [[.d (ints g.nodes), .d (AM.edges g.edges)]])], tok, nt⟩
theorem right07_c (g : Gr) (p : Mo) (hg : g.Fit) (hv : validG g = 0) (hp : p.Fit) (tok : Tks) (nt : Nat) : DCall Tryz.prog 104 [g.av, p.av] tok nt (I (rightP g p)) tok nt := by
 intro box nb
 have h1 := asc07_c p.nodes g.nodes.length hp.n
 have h2 := asc07_c p.edges g.edges.length hp.e
 refine sB Tryz.func104 Tryz.ntmps104 ?_
 intro hbox htok
 simp only at hbox htok
 apply AL.start
 try (simp)
 repeat (refine sR ?_; simp)
 refine Stop.of_d (h1 _ _) ?_
 simp
 try (simp)
 repeat (refine sR ?_; simp)
 by_cases e1 : ascE p.nodes g.nodes.length = 0
 ·simp only [e1]
  refine sC ?_
  simp
  try (simp)
  repeat (refine sR ?_; simp)
  refine Stop.of_d (h2 _ _) ?_
  simp
  try (simp)
  repeat (refine sR ?_; simp)
  by_cases e2 : ascE p.edges g.edges.length = 0
  ·simp only [e2]
   refine sC ?_
   simp
   try (simp)
   repeat (refine sR ?_; simp)
   refine sN ?_
   have re := asc_rng e2
   refine AL.loopT (stRi g p nb box tok nt) (fun i => i ≤ p.edges.length ∧ firstE (dangAt g p) i = 0) (fun i => p.edges.length - i) 0 ⟨Nat.zero_le _, rfl⟩ (Weaks.mk (Nat.le_refl _) rfl (by simp [ToL, lk]) (by simp [BoxL, lk])) ?_
   rintro i S ⟨hi, hok⟩ hS
   simp only [stRi] at hS
   subst hS
   have hpe := hp.e
   have hw := sW (i := i) (by omega)
   have hR : i < p.edges.length → dangAt g p i ≠ 0 → rightP g p = dangAt g p i := fun hlt h0 => by
    have := firstE_stop hok h0 p.edges.length hlt
    simp [rightP, e1, e2, this]
   try (simp)
   repeat (refine sR ?_; simp)
   refine sC ?_
   simp
   refine ⟨fun hlt => ?_, fun hge => ?_⟩
   ·have hR := hR hlt
    obtain ⟨r1, r2⟩ := re _ (List.getElem_mem hlt)
    have r3 : p.edges[i].toNat < g.edges.length := by omega
    have hD : dangAt g p i = if g.edges[p.edges[i].toNat].fr ∈ p.nodes ∧ g.edges[p.edges[i].toNat].to ∈ p.nodes then 0 else 14 := by
     have q1 : p.edges.getD i 0 = p.edges[i] := by simp [hlt]
     have q2 : g.edges.getD p.edges[i].toNat default = g.edges[p.edges[i].toNat] := by simp [r3]
     rw [dangAt, q1, q2]
    have hh := fun v => has07_c p.nodes v hp.n
    refine sN ?_
    refine AL.region2 follows_Tryz (Nat.le_refl _) (by kernel_rfl) (Side.of (by simp)) ?_
    simp [hlt, r1, r2, r3]
    generalize g.edges[p.edges[i].toNat] = x at *
    try (simp)
    repeat (refine sR ?_; simp)
    refine Stop.of_d (hh _ _ _) ?_
    simp
    by_cases h1 : x.fr ∈ p.nodes
    ·simp only [h1]
     try (simp)
     repeat (refine sR ?_; simp)
     refine Stop.of_d (hh _ _ _) ?_
     simp
     by_cases h2 : x.to ∈ p.nodes
     ·rw [if_pos ⟨h1, h2⟩] at hD
      simp only [h2]
      try (simp)
      repeat (refine sR ?_; simp)
      refine sC ?_
      simp
      try (simp [hw])
      repeat (refine sR ?_; simp [hw])
      refine sE ?_
      exact ⟨i + 1, ⟨hlt, by simp only [firstE, hok, hD, ↓reduceIte]⟩, by omega, Weaks.mk (Nat.le_refl _) rfl (by simp [ToL, lk]) (by simp [BoxL, lk])⟩
     ·rw [if_neg (fun h => h2 h.2)] at hD
      rw [hD] at hR
      have hR := hR (by decide)
      simp only [h2]
      try (simp)
      repeat (refine sR ?_; simp)
      refine sC ?_
      simp
      try (simp)
      repeat (refine sR ?_; simp)
      refine sT ?_
      try simp only [AU]
      refine ⟨by simp, sF hbox htok (fun _ h => h) (Nat.le_refl _) ?_⟩
      simp [packA, hR]
    ·rw [if_neg (fun h => h1 h.1)] at hD
     rw [hD] at hR
     have hR := hR (by decide)
     simp only [h1]
     try (simp)
     repeat (refine sR ?_; simp)
     refine sC ?_
     simp
     try (simp)
     repeat (refine sR ?_; simp)
     refine sT ?_
     try simp only [AU]
     refine ⟨by simp, sF hbox htok (fun _ h => h) (Nat.le_refl _) ?_⟩
     simp [packA, hR]
   ·refine sX ?_
    simp only [AU, ↓reduceIte]
    try (simp)
    repeat (refine sR ?_; simp)
    have : i = p.edges.length := by omega
    subst this
    refine sT ?_
    try simp only [AU]
    refine ⟨by simp, sF hbox htok (fun _ h => h) (Nat.le_refl _) ?_⟩
    simp [packA, rightP, e1, e2, hok]
  ·have b2 : (ascE p.edges g.edges.length != 0) = true := by simp [e2]
   simp only [b2]
   refine sC ?_
   simp
   try (simp)
   repeat (refine sR ?_; simp)
   refine sT ?_
   try simp only [AU]
   refine ⟨by simp, sF hbox htok (fun _ h => h) (Nat.le_refl _) ?_⟩
   simp [packA, rightP, e1, e2]
 ·have b1 : (ascE p.nodes g.nodes.length != 0) = true := by simp [e1]
  simp only [b1]
  refine sC ?_
  simp
  try (simp)
  repeat (refine sR ?_; simp)
  refine sT ?_
  try simp only [AU]
  refine ⟨by simp, sF hbox htok (fun _ h => h) (Nat.le_refl _) ?_⟩
  simp [packA, rightP, e1]
theorem valid07_c (g : Gr) (p : Mo) (hg : g.Fit) (hp : p.Fit) (tok : Tks) (nt : Nat) : DCall Tryz.prog 49 [g.av, p.av] tok nt (I (validP g p)) tok nt := by
 intro box nb
 have h1 := valid05_c g hg
 have h2 := fun h => right07_c g p hg h hp
 refine sB Tryz.func49 Tryz.ntmps49 ?_
 intro hbox htok
 simp only at hbox htok
 apply AL.start
 try (simp)
 repeat (refine sR ?_; simp)
 refine Stop.of_d (h1 _ _) ?_
 simp
 try (simp)
 repeat (refine sR ?_; simp)
 by_cases e1 : validG g = 0
 ·simp only [e1]
  refine sC ?_
  simp
  try (simp)
  repeat (refine sR ?_; simp)
  refine Stop.of_d (h2 e1 _ _) ?_
  simp
  try (simp)
  repeat (refine sR ?_; simp)
  refine sT ?_
  try simp only [AU]
  refine ⟨by simp, sF hbox htok (fun _ h => h) (Nat.le_refl _) ?_⟩
  simp [packA, validP, e1]
 ·have b1 : (validG g != 0) = true := by simp [e1]
  simp only [b1]
  refine sC ?_
  simp
  try (simp)
  repeat (refine sR ?_; simp)
  refine sT ?_
  try simp only [AU]
  refine ⟨by simp, sF hbox htok (fun _ h => h) (Nat.le_refl _) ?_⟩
  simp [packA, validP, e1]
def exN07 (g : Gr) (p : Mo) (i : Nat) : List Int := (p.nodes.take i).map fun k => g.nodes.getD k.toNat 0
def exE07 (g : Gr) (p : Mo) (i : Nat) : List E := (p.edges.take i).map (exE1 g p)
def stEx1 (g : Gr) (p : Mo) (nb : Nat) (box : Bxs) (x : Acc) : AState :=
 ⟨tl [(9, I x.i), (8, .ptr (nb + 8) 0 0), (5, .ptr (nb + 5) 0 0), (4, .ptr (nb + 4) 0 0), (3, .ptr (nb + 3) 0 0), (2, .ptr (nb + 2) 0 0)],
  lb nb box [(8, [[.osl 1 (rI (exN07 g p x.i)) x.own, .osl 0 [] .full]]), (3, [[.d (ints p.nodes), .d (ints p.edges)]]), (2, [[.d (ints g.nodes), .d (AM.edges g.edges)]]), (5, [[nilS, nilS]]), (4, [[nilS, nilS]])], x.tok, x.nt⟩
def stEx2 (g : Gr) (p : Mo) (own1 : Own) (nb : Nat) (box : Bxs) (x : Acc) : AState :=
 ⟨tl [(10, I x.i), (8, .ptr (nb + 8) 0 0), (5, .ptr (nb + 5) 0 0), (4, .ptr (nb + 4) 0 0), (3, .ptr (nb + 3) 0 0), (2, .ptr (nb + 2) 0 0)],
  lb nb box [(8, [[.d (ints (exN07 g p p.nodes.length)), .osl 3 (rE (exE07 g p x.i)) x.own]]), (3, [[.d (ints p.nodes), .d (ints p.edges)]]), (2, [[.d (ints g.nodes), .d (AM.edges g.edges)]]), (5, [[nilS, nilS]]), (4, [[nilS, nilS]])], x.tok, x.nt⟩
theorem exN07_zero (g : Gr) (p : Mo) : exN07 g p 0 = [] := by simp [exN07]
theorem exE07_zero (g : Gr) (p : Mo) : exE07 g p 0 = [] := by simp [exE07]
theorem exN07_succ (g : Gr) (p : Mo) {i : Nat} (h : i < p.nodes.length) : exN07 g p (i + 1) = exN07 g p i ++ [g.nodes.getD p.nodes[i].toNat 0] := by simp only [exN07, List.take_add_one, List.getElem?_eq_getElem h, Option.toList, List.map_append, List.map_cons, List.map_nil]
theorem exE07_succ (g : Gr) (p : Mo) {i : Nat} (h : i < p.edges.length) : exE07 g p (i + 1) = exE07 g p i ++ [exE1 g p p.edges[i]] := by simp only [exE07, List.take_add_one, List.getElem?_eq_getElem h, Option.toList, List.map_append, List.map_cons, List.map_nil]
theorem exN07_len (g : Gr) (p : Mo) (i : Nat) : (exN07 g p i).length ≤ i := by simp [exN07]; omega
theorem exE07_len (g : Gr) (p : Mo) (i : Nat) : (exE07 g p i).length ≤ i := by simp [exE07]; omega
theorem exG_07 (g : Gr) (p : Mo) : exG g p = ⟨exN07 g p p.nodes.length, exE07 g p p.edges.length⟩ := by simp [exG, exN07, exE07]
theorem extract07_c (g : Gr) (p : Mo) (hg : g.Fit) (hp : p.Fit) (h : VP g p) (tok : Tks) (nt : Nat) : DCall Tryz.prog 50 [g.av, p.av] tok nt (.tup [(exG g p).av, p.av, I 0]) tok nt := by
 intro box nb
 have h1 := valid07_c g p hg hp
 rw [h.v] at h1
 refine sB Tryz.func50 Tryz.ntmps50 ?_
 intro hbox htok
 simp only at hbox htok
 apply AL.start
 try (simp)
 repeat (refine sR ?_; simp)
 refine Stop.of_d (h1 _ _) ?_
 simp
 try (simp)
 repeat (refine sR ?_; simp)
 refine sC ?_
 simp
 try (simp)
 repeat (refine sR ?_; simp)
 refine sN ?_
 have hpn := hp.n
 have hpe := hp.e
 refine AL.loopT (stEx1 g p nb box) (fun x => x.i ≤ p.nodes.length ∧ TK tok nt x.tok x.nt [x.own]) (fun x => p.nodes.length - x.i) ⟨0, .full, tok, nt⟩ ⟨Nat.zero_le _, (TK.start htok).full⟩ (Weaks.mk (Nat.le_refl _) rfl (by simp [ToL, lk]) (by simp [BoxL, lk, exN07_zero])) ?_
 rintro ⟨i, own, tok', nt'⟩ S ⟨hi, htk⟩ hS
 simp only [stEx1] at hS hi htk
 subst hS
 have hw := sW (i := i) (by omega)
 try (simp)
 repeat (refine sR ?_; simp)
 refine sC ?_
 simp
 refine ⟨fun hlt => ?_, fun hge => ?_⟩
 ·obtain ⟨r1, r2⟩ := h.n _ (List.getElem_mem hlt)
  have r3 : p.nodes[i].toNat < g.nodes.length := by omega
  refine sR ?_
  simp [hlt, r1, r2, r3]
  refine ⟨⟨by have := exN07_len g p i; omega, htk.live⟩, ?_⟩
  try (simp [hw])
  repeat (refine sR ?_; simp [hw])
  refine sE ?_
  exact ⟨⟨i + 1, _, _, _⟩, ⟨hlt, htk.app⟩, by simp only; omega, Weaks.mk htk.app.le rfl (by simp [ToL, lk]) (by simp [BoxL, lk, exN07_succ g p hlt, r3])⟩
 ·refine sX ?_
  simp only [AU, ↓reduceIte]
  have : i = p.nodes.length := by omega
  subst this
  try (simp)
  repeat (refine sR ?_; simp)
  refine sN ?_
  refine AL.loopT (stEx2 g p own nb box) (fun x => x.i ≤ p.edges.length ∧ TK tok nt x.tok x.nt [x.own]) (fun x => p.edges.length - x.i) ⟨0, .full, tok', nt'⟩ ⟨Nat.zero_le _, htk.tail.full⟩ (Weaks.mk htk.le rfl (by simp [ToL, lk]) (by simp [BoxL, lk, exE07_zero])) ?_
  rintro ⟨i, own2, tok2, nt2⟩ S ⟨hi, htk2⟩ hS
  simp only [stEx2] at hS hi htk2
  subst hS
  have hw := sW (i := i) (by omega)
  have hh := fun v => index07_c p.nodes v hp.n
  try (simp)
  repeat (refine sR ?_; simp)
  refine sC ?_
  simp
  refine ⟨fun hlt => ?_, fun hge => ?_⟩
  ·obtain ⟨r1, r2⟩ := h.e _ (List.getElem_mem hlt)
   have r3 : p.edges[i].toNat < g.edges.length := by omega
   have hE : exE1 g p p.edges[i] = ⟨g.edges[p.edges[i].toNat].ty, indexI p.nodes g.edges[p.edges[i].toNat].fr, indexI p.nodes g.edges[p.edges[i].toNat].to⟩ := by
    have q2 : g.edges.getD p.edges[i].toNat default = g.edges[p.edges[i].toNat] := by simp [r3]
    rw [exE1, q2]
   have hsucc := exE07_succ g p hlt
   rw [hE] at hsucc
   refine sN ?_
   refine AL.region2 follows_Tryz (Nat.le_refl _) (by kernel_rfl) (Side.of (by simp)) ?_
   simp [hlt, r1, r2, r3]
   generalize g.edges[p.edges[i].toNat] = x at *
   refine sR ?_
   simp
   refine Stop.of_d (hh _ _ _) ?_
   simp
   refine Stop.of_d (hh _ _ _) ?_
   simp
   refine ⟨⟨by have := exE07_len g p i; omega, htk2.live⟩, ?_⟩
   try (simp [hw])
   repeat (refine sR ?_; simp [hw])
   refine sE ?_
   exact ⟨⟨i + 1, _, _, _⟩, ⟨hlt, htk2.app⟩, by simp only; omega, Weaks.mk htk2.app.le rfl (by simp [ToL, lk]) (by simp [BoxL, lk, hsucc])⟩
  ·refine sX ?_
   simp only [AU, ↓reduceIte]
   have : i = p.edges.length := by omega
   subst this
   try (simp)
   repeat (refine sR ?_; simp)
   refine ⟨by omega, by omega, ?_⟩
   have htk3 := htk2.full.app.full.app
   refine sT ?_
   try simp only [AU]
   refine ⟨by simp, sF hbox htok htk3.old htk3.le ?_⟩
   simp [packA, exG_07]
end Go.AM
namespace Go.AM
open Go Go.Proofs
theorem isNaN_c (n : Int) (tok : Tks) (nt : Nat) : DCall Tryz.prog 255 [I n] tok nt (B false) tok nt := by
 intro box nb
 refine sB Tryz.func255 Tryz.ntmps255 ?_
 intro hbox htok
 simp only at hbox htok
 apply AL.start
 try (simp)
 repeat (refine sR ?_; simp)
 refine sT ?_
 try simp only [AU]
 refine ⟨by simp, sF hbox htok (fun _ h => h) (Nat.le_refl _) ?_⟩
 simp [packA]
theorem isNaNs_c (n : Int) (tok : Tks) (nt : Nat) : DCall Tryz.prog 215 [I n] tok nt (B false) tok nt := by
 intro box nb
 refine sB Tryz.func215 Tryz.ntmps215 ?_
 intro hbox htok
 simp only at hbox htok
 apply AL.start
 try (simp)
 repeat (refine sR ?_; simp)
 refine sT ?_
 try simp only [AU]
 refine ⟨by simp, sF hbox htok (fun _ h => h) (Nat.le_refl _) ?_⟩
 simp [packA]
theorem less_c (m n : Int) (tok : Tks) (nt : Nat) : DCall Tryz.prog 214 [I m, I n] tok nt (B (decide (m < n))) tok nt := by
 intro box nb
 have h := isNaN_c
 refine sB Tryz.func214 Tryz.ntmps214 ?_
 intro hbox htok
 simp only at hbox htok
 apply AL.start
 try (simp)
 repeat (refine sR ?_; simp)
 refine Stop.of_d (h _ _ _) ?_
 simp
 try (simp)
 repeat (refine sR ?_; simp)
 refine sT ?_
 try simp only [AU]
 refine ⟨by simp, sF hbox htok (fun _ h => h) (Nat.le_refl _) ?_⟩
 simp [packA]
def lowI (l : List Int) (v : Int) : Nat := l.findIdx fun x => decide (v ≤ x)
theorem lowI_eq {l : List Int} {v : Int} {i : Nat} (hi : i ≤ l.length) (h1 : ∀ t, t < i → l.getD t 0 < v) (h2 : ∀ t, i ≤ t → t < l.length → v ≤ l.getD t 0) : lowI l v = i := by
 unfold lowI
 have gd : ∀ t (h : t < l.length), l.getD t 0 = l[t] := fun t h => by simp [h]
 by_cases h : i < l.length
 ·rw [List.findIdx_eq h]
  refine ⟨?_, fun j hj => ?_⟩
  ·have := h2 i (Nat.le_refl _) h
   rw [gd i h] at this
   simpa using this
  ·have := h1 j hj
   rw [gd j (by omega)] at this
   simpa using this
 ·have : i = l.length := by omega
  subst this
  rw [List.findIdx_eq_length]
  intro x hx
  obtain ⟨t, ht, rfl⟩ := List.getElem_of_mem hx
  have := h1 t ht
  rw [gd t ht] at this
  simpa using this
theorem lowI_index {l : List Int} {v : Int} (hs : ∀ j i, i < j → j < l.length → l.getD i 0 < l.getD j 0) (hm : v ∈ l) : (lowI l v : Int) = indexI l v := by
 obtain ⟨i1, i2, i3⟩ := indexI_in hm
 obtain ⟨k, hk⟩ : ∃ k : Nat, indexI l v = k := ⟨(indexI l v).toNat, by omega⟩
 rw [hk] at i1 i2 i3 ⊢
 rw [Int.toNat_natCast] at i3
 rw [lowI_eq (i := k) (by omega) (fun t ht => by rw [← i3]; exact hs k t ht (by omega)) fun t h1 h2 => by
  rw [← i3]
  by_cases e : t = k
  ·subst e; omega
  ·have := hs t k (by omega) h2; omega]
structure AccB where
 i : Nat
 j : Nat
def stBs (l : List Int) (v : Int) (nb : Nat) (box : Bxs) (tok : Tks) (nt : Nat) (a : AccB) : AState := ⟨tl [(8, I a.j), (7, I a.i), (6, I l.length), (5, B false), (4, I 0), (0, .d (ints l)), (1, I v)], lb nb box [], tok, nt⟩
theorem search_c (l : List Int) (v : Int) (hl : l.length ≤ 1000000) (hs : ∀ j i, i < j → j < l.length → l.getD i 0 < l.getD j 0) (tok : Tks) (nt : Nat) :
  DCall Tryz.prog 156 [.d (ints l), I v] tok nt (.tup [I (lowI l v), B (decide (v ∈ l))]) tok nt := by
 intro box nb
 refine sB Tryz.func156 Tryz.ntmps156 ?_
 intro hbox htok
 simp only at hbox htok
 apply AL.start
 try (simp)
 repeat (refine sR ?_; simp)
 refine sN ?_
 refine AL.loopT (stBs l v nb box tok nt) (fun a => a.i ≤ a.j ∧ a.j ≤ l.length ∧ (∀ t, t < a.i → l.getD t 0 < v) ∧ ∀ t, a.j ≤ t → t < l.length → v ≤ l.getD t 0) (fun a => a.j - a.i) ⟨0, l.length⟩ ⟨Nat.zero_le _, Nat.le_refl _, fun t ht => absurd ht (Nat.not_lt_zero _), fun t h1 h2 => absurd h2 (by simp only at h1; omega)⟩ (Weaks.mk (Nat.le_refl _) rfl (by simp [ToL, lk]) trivial) ?_
 rintro ⟨i, j⟩ S ⟨hij, hj, h1, h2⟩ hS
 simp only [stBs] at hS hij hj h1 h2
 subst hS
 try (simp)
 repeat (refine sR ?_; simp)
 refine sC ?_
 simp
 refine ⟨fun hlt => ?_, fun hge => ?_⟩
 ·obtain ⟨q, hq⟩ : ∃ q, i + j = q := ⟨_, rfl⟩
  obtain ⟨h, hh⟩ : ∃ h, q / 2 = h := ⟨_, rfl⟩
  have w1 : IntKind.i64.wrap (↑i + ↑j) = (q : Int) := by rw [wrap_in (by omega) (by omega)]; omega
  have w2 : IntKind.u64.wrap (q : Int) = q := u64_in (by omega) (by omega)
  have w3 : (q : Int).fdiv (2 ^ min 1 IntKind.u64.bits) = (h : Int) := by
   have e : (2 : Int) ^ min 1 IntKind.u64.bits = 2 := by decide
   rw [e, Int.fdiv_eq_ediv_of_nonneg _ (by omega)]
   omega
  have w4 : IntKind.i64.wrap (h : Int) = h := wrap_in (by omega) (by omega)
  have w5 : IntKind.i64.wrap ((h : Int) + 1) = ((h + 1 : Nat) : Int) := by rw [wrap_in (by omega) (by omega)]; rfl
  have hhl : h < l.length := by omega
  have hgh : l.getD h 0 = l[h] := by simp [hhl]
  have hls := less_c l[h] v
  try (simp [w1, w2, w3, w4, hhl])
  repeat (refine sR ?_; simp [w1, w2, w3, w4, hhl])
  refine Stop.of_d (hls _ _) ?_
  simp
  by_cases hv : l[h] < v
  ·simp only [hv]
   refine sC ?_
   simp
   try (simp [w5])
   repeat (refine sR ?_; simp [w5])
   refine sE ?_
   refine ⟨⟨h + 1, j⟩, ⟨by simp only; omega, hj, fun t ht => ?_, h2⟩, by simp only; omega, Weaks.mk (Nat.le_refl _) rfl (by simp [ToL, lk]) trivial⟩
   simp only at ht
   rw [← List.getD_eq_getElem?_getD]
   by_cases e : t = h
   ·rw [e, hgh]; exact hv
   ·have := hs h t (by omega) hhl
    rw [hgh] at this
    omega
  ·simp only [hv]
   refine sC ?_
   simp
   try (simp)
   repeat (refine sR ?_; simp)
   refine sE ?_
   refine ⟨⟨i, h⟩, ⟨by simp only; omega, by simp only; omega, h1, fun t ht htl => ?_⟩, by simp only; omega, Weaks.mk (Nat.le_refl _) rfl (by simp [ToL, lk]) trivial⟩
   simp only at ht
   rw [← List.getD_eq_getElem?_getD]
   by_cases e : t = h
   ·rw [e, hgh]; omega
   ·have := hs t h (by omega) htl
    rw [hgh] at this
    omega
 ·refine sX ?_
  simp only [AU, ↓reduceIte]
  have hij2 : i = j := by omega
  subst hij2
  have hlow : lowI l v = i := lowI_eq hj h1 h2
  have hmem : i < l.length → l.getD i 0 = v → v ∈ l := fun h3 h4 => by rw [← h4]; exact getD_mem h3
  have hin : v ∈ l → i < l.length ∧ l.getD i 0 = v := fun hm => by
   obtain ⟨t, ht, e⟩ := mem_getD hm
   have a1 : ¬ t < i := fun h3 => by have := h1 t h3; omega
   have a2 : ¬ i < t := fun h3 => by
    have := hs t i h3 ht
    have := h2 i (Nat.le_refl _) (by omega)
    omega
   have : t = i := by omega
   subst this
   exact ⟨ht, e⟩
  by_cases h3 : i < l.length
  ·have hg : l.getD i 0 = l[i] := by simp [h3]
   rw [hg] at hmem hin
   by_cases h4 : l[i] = v
   ·have hm := hmem h3 h4
    have hb : (l[i] == v) = true := by simp [h4]
    try (simp [h3, hb])
    repeat (refine sR ?_; simp [h3, hb])
    refine sT ?_
    try simp only [AU]
    refine ⟨by simp, sF hbox htok (fun _ h => h) (Nat.le_refl _) ?_⟩
    simp [packA, hlow, hm]
   ·have hm : v ∉ l := fun h => h4 (hin h).2
    have hb : (l[i] == v) = false := by simp [h4]
    try (simp [h3, hb])
    repeat (refine sR ?_; simp [h3, hb])
    refine Stop.of_d (isNaNs_c _ _ _) ?_
    simp
    try (simp)
    repeat (refine sR ?_; simp)
    refine sT ?_
    try simp only [AU]
    refine ⟨by simp, sF hbox htok (fun _ h => h) (Nat.le_refl _) ?_⟩
    simp [packA, hlow, hm]
  ·have hm : v ∉ l := fun h => h3 (hin h).1
   try (simp [h3])
   repeat (refine sR ?_; simp [h3])
   refine sT ?_
   try simp only [AU]
   refine ⟨by simp, sF hbox htok (fun _ h => h) (Nat.le_refl _) ?_⟩
   simp [packA, hlow, hm]
def stLi (l : List Int) (n : Int) (nb : Nat) (box : Bxs) (tok : Tks) (nt : Nat) (i : Nat) : AState := ⟨tl [(9, I i), (8, I l.length), (7, .d (ints l)), (4, I 0), (0, .d (ints l)), (1, I n)], lb nb box [], tok, nt⟩
theorem list_c (l : List Int) (n : Int) (hl : l.length ≤ 1000000) (tok : Tks) (nt : Nat) : DCall Tryz.prog 212 [.d (ints l), I n] tok nt (I (ascE l n)) tok nt := by
 intro box nb
 refine sB Tryz.func212 Tryz.ntmps212 ?_
 intro hbox htok
 simp only at hbox htok
 apply AL.start
 try (simp)
 repeat (refine sR ?_; simp)
 refine sN ?_
 refine AL.loopT (stLi l n nb box tok nt) (fun i => i ≤ l.length ∧ firstE (ascAt l n) i = 0) (fun i => l.length - i) 0 ⟨Nat.zero_le _, rfl⟩ (Weaks.mk (Nat.le_refl _) rfl (by simp [ToL, lk]) trivial) ?_
 rintro i S ⟨hi, hok⟩ hS
 simp only [stLi] at hS
 subst hS
 have hw := sW (i := i) (by omega)
 have hR : i < l.length → ascAt l n i ≠ 0 → ascE l n = ascAt l n i := fun hlt h0 => firstE_stop hok h0 l.length hlt
 try (simp)
 repeat (refine sR ?_; simp)
 refine sC ?_
 simp
 refine ⟨fun hlt => ?_, fun hge => ?_⟩
 ·have hg : l.getD i 0 = l[i] := by simp [hlt]
  have hR := hR hlt
  have hA : ascAt l n i = if l[i] < 0 ∨ n ≤ l[i] then 6 else if 0 < i ∧ l[i] ≤ l.getD (i - 1) 0 then 12 else 0 := by rw [ascAt, hg]
  by_cases hneg : l[i] < 0
  ·try (simp [hneg, hlt])
   repeat (refine sR ?_; simp [hneg, hlt])
   refine sC ?_
   simp
   try (simp)
   repeat (refine sR ?_; simp)
   rw [hA, if_pos (.inl hneg)] at hR
   have hR := hR (by decide)
   refine sT ?_
   try simp only [AU]
   refine ⟨by simp, sF hbox htok (fun _ h => h) (Nat.le_refl _) ?_⟩
   simp [packA, hR]
  ·by_cases hbig : n ≤ l[i]
   ·try (simp [hneg, hlt, hbig])
    repeat (refine sR ?_; simp [hneg, hlt, hbig])
    refine sC ?_
    simp
    try (simp)
    repeat (refine sR ?_; simp)
    rw [hA, if_pos (.inr hbig)] at hR
    have hR := hR (by decide)
    refine sT ?_
    try simp only [AU]
    refine ⟨by simp, sF hbox htok (fun _ h => h) (Nat.le_refl _) ?_⟩
    simp [packA, hR]
   ·rw [if_neg (by omega)] at hA
    try (simp [hneg, hlt, hbig])
    repeat (refine sR ?_; simp [hneg, hlt, hbig])
    refine sC ?_
    simp
    by_cases h0 : 0 < i
    ·have hw' : IntKind.i64.wrap (↑i - 1) = ((i - 1 : Nat) : Int) := by rw [wrap_in (by omega) (by omega)]; omega
     have hlt' : i - 1 < l.length := by omega
     have hg' : l.getD (i - 1) 0 = l[i - 1] := by simp [hlt']
     rw [hg'] at hA
     try (simp [hlt, h0, hw', hlt'])
     repeat (refine sR ?_; simp [hlt, h0, hw', hlt'])
     by_cases hle : l[i] ≤ l[i - 1]
     ·rw [if_pos ⟨h0, hle⟩] at hA
      rw [hA] at hR
      have hR := hR (by decide)
      simp only [hle]
      refine sC ?_
      simp
      try (simp)
      repeat (refine sR ?_; simp)
      refine sT ?_
      try simp only [AU]
      refine ⟨by simp, sF hbox htok (fun _ h => h) (Nat.le_refl _) ?_⟩
      simp [packA, hR]
     ·rw [if_neg (by omega)] at hA
      simp only [hle]
      refine sC ?_
      simp
      try (simp [hw])
      repeat (refine sR ?_; simp [hw])
      refine sE ?_
      exact ⟨i + 1, ⟨hlt, by simp only [firstE, hok, hA, ↓reduceIte]⟩, by omega, Weaks.mk (Nat.le_refl _) rfl (by simp [ToL, lk]) trivial⟩
    ·rw [if_neg (by omega)] at hA
     try (simp [hlt, h0])
     repeat (refine sR ?_; simp [hlt, h0])
     refine sC ?_
     simp
     try (simp [hw])
     repeat (refine sR ?_; simp [hw])
     refine sE ?_
     exact ⟨i + 1, ⟨hlt, by simp only [firstE, hok, hA, ↓reduceIte]⟩, by omega, Weaks.mk (Nat.le_refl _) rfl (by simp [ToL, lk]) trivial⟩
 ·refine sX ?_
  simp only [AU, ↓reduceIte]
  try (simp)
  repeat (refine sR ?_; simp)
  have : i = l.length := by omega
  subst this
  refine sT ?_
  try simp only [AU]
  refine ⟨by simp, sF hbox htok (fun _ h => h) (Nat.le_refl _) ?_⟩
  simp [packA, ascE, hok]
theorem has_c (l : List Int) (v : Int) (hl : l.length ≤ 1000000) (hs : ∀ j i, i < j → j < l.length → l.getD i 0 < l.getD j 0) (tok : Tks) (nt : Nat) : DCall Tryz.prog 213 [.d (ints l), I v] tok nt (B (decide (v ∈ l))) tok nt := by
 intro box nb
 have h := search_c l v hl hs
 refine sB Tryz.func213 Tryz.ntmps213 ?_
 intro hbox htok
 simp only at hbox htok
 apply AL.start
 try (simp)
 repeat (refine sR ?_; simp)
 refine Stop.of_d (h _ _) ?_
 simp
 try (simp)
 repeat (refine sR ?_; simp)
 refine sT ?_
 try simp only [AU]
 refine ⟨by simp, sF hbox htok (fun _ h => h) (Nat.le_refl _) ?_⟩
 simp [packA]
def stPr (g : Gr) (p : Mo) (nb : Nat) (box : Bxs) (tok : Tks) (nt : Nat) (i : Nat) : AState :=
 ⟨tl [(30, I i), (29, I p.edges.length), (28, .d (ints p.edges)), (3, .ptr (nb + 3) 0 0), (2, .ptr (nb + 2) 0 0)], lb nb box [(3, [[.d (ints p.nodes), .d (ints p.edges)]]), (2, [[.d (ints g.nodes), .d (AM.edges g.edges)]])], tok, nt⟩
theorem part_c (g : Gr) (p : Mo) (hg : g.Fit) (hv : validG g = 0) (hp : p.Fit) (tok : Tks) (nt : Nat) : DCall Tryz.prog 155 [g.av, p.av] tok nt (I (rightP g p)) tok nt := by
 intro box nb
 have h1 := list_c p.nodes g.nodes.length hp.n
 have h2 := list_c p.edges g.edges.length hp.e
 refine sB Tryz.func155 Tryz.ntmps155 ?_
 intro hbox htok
 simp only at hbox htok
 apply AL.start
 try (simp)
 repeat (refine sR ?_; simp)
 refine Stop.of_d (h1 _ _) ?_
 simp
 try (simp)
 repeat (refine sR ?_; simp)
 by_cases e1 : ascE p.nodes g.nodes.length = 0
 ·simp only [e1]
  refine sC ?_
  simp
  try (simp)
  repeat (refine sR ?_; simp)
  refine Stop.of_d (h2 _ _) ?_
  simp
  try (simp)
  repeat (refine sR ?_; simp)
  by_cases e2 : ascE p.edges g.edges.length = 0
  ·simp only [e2]
   refine sC ?_
   simp
   try (simp)
   repeat (refine sR ?_; simp)
   refine sN ?_
   have re := asc_rng e2
   refine AL.loopT (stPr g p nb box tok nt) (fun i => i ≤ p.edges.length ∧ firstE (dangAt g p) i = 0) (fun i => p.edges.length - i) 0 ⟨Nat.zero_le _, rfl⟩ (Weaks.mk (Nat.le_refl _) rfl (by simp [ToL, lk]) (by simp [BoxL, lk])) ?_
   rintro i S ⟨hi, hok⟩ hS
   simp only [stPr] at hS
   subst hS
   have hpe := hp.e
   have hw := sW (i := i) (by omega)
   have hR : i < p.edges.length → dangAt g p i ≠ 0 → rightP g p = dangAt g p i := fun hlt h0 => by
    have := firstE_stop hok h0 p.edges.length hlt
    simp [rightP, e1, e2, this]
   try (simp)
   repeat (refine sR ?_; simp)
   refine sC ?_
   simp
   refine ⟨fun hlt => ?_, fun hge => ?_⟩
   ·have hR := hR hlt
    obtain ⟨r1, r2⟩ := re _ (List.getElem_mem hlt)
    have r3 : p.edges[i].toNat < g.edges.length := by omega
    have hD : dangAt g p i = if g.edges[p.edges[i].toNat].fr ∈ p.nodes ∧ g.edges[p.edges[i].toNat].to ∈ p.nodes then 0 else 14 := by
     have q1 : p.edges.getD i 0 = p.edges[i] := by simp [hlt]
     have q2 : g.edges.getD p.edges[i].toNat default = g.edges[p.edges[i].toNat] := by simp [r3]
     rw [dangAt, q1, q2]
    have hh := fun v => has_c p.nodes v hp.n (asc_lt e1)
    try (simp [hlt, r1, r2, r3])
    repeat (refine sR ?_; simp [hlt, r1, r2, r3])
    refine Stop.of_d (hh _ _ _) ?_
    simp
    by_cases h1 : g.edges[p.edges[i].toNat].fr ∈ p.nodes
    ·simp only [h1]
     try (simp [hlt, r1, r2, r3])
     repeat (refine sR ?_; simp [hlt, r1, r2, r3])
     refine Stop.of_d (hh _ _ _) ?_
     simp
     by_cases h2 : g.edges[p.edges[i].toNat].to ∈ p.nodes
     ·rw [if_pos ⟨h1, h2⟩] at hD
      simp only [h2]
      try (simp)
      repeat (refine sR ?_; simp)
      refine sC ?_
      simp
      try (simp [hw])
      repeat (refine sR ?_; simp [hw])
      refine sE ?_
      exact ⟨i + 1, ⟨hlt, by simp only [firstE, hok, hD, ↓reduceIte]⟩, by omega, Weaks.mk (Nat.le_refl _) rfl (by simp [ToL, lk]) (by simp [BoxL, lk])⟩
     ·rw [if_neg (fun h => h2 h.2)] at hD
      rw [hD] at hR
      have hR := hR (by decide)
      simp only [h2]
      try (simp)
      repeat (refine sR ?_; simp)
      refine sC ?_
      simp
      try (simp)
      repeat (refine sR ?_; simp)
      refine sT ?_
      try simp only [AU]
      refine ⟨by simp, sF hbox htok (fun _ h => h) (Nat.le_refl _) ?_⟩
      simp [packA, hR]
    ·rw [if_neg (fun h => h1 h.1)] at hD
     rw [hD] at hR
     have hR := hR (by decide)
     simp only [h1]
     try (simp)
     repeat (refine sR ?_; simp)
     refine sC ?_
     simp
     try (simp)
     repeat (refine sR ?_; simp)
     refine sT ?_
     try simp only [AU]
     refine ⟨by simp, sF hbox htok (fun _ h => h) (Nat.le_refl _) ?_⟩
     simp [packA, hR]
   ·refine sX ?_
    simp only [AU, ↓reduceIte]
    try (simp)
    repeat (refine sR ?_; simp)
    have : i = p.edges.length := by omega
    subst this
    refine sT ?_
    try simp only [AU]
    refine ⟨by simp, sF hbox htok (fun _ h => h) (Nat.le_refl _) ?_⟩
    simp [packA, rightP, e1, e2, hok]
  ·have b2 : (ascE p.edges g.edges.length != 0) = true := by simp [e2]
   simp only [b2]
   refine sC ?_
   simp
   try (simp)
   repeat (refine sR ?_; simp)
   refine sT ?_
   try simp only [AU]
   refine ⟨by simp, sF hbox htok (fun _ h => h) (Nat.le_refl _) ?_⟩
   simp [packA, rightP, e1, e2]
 ·have b1 : (ascE p.nodes g.nodes.length != 0) = true := by simp [e1]
  simp only [b1]
  refine sC ?_
  simp
  try (simp)
  repeat (refine sR ?_; simp)
  refine sT ?_
  try simp only [AU]
  refine ⟨by simp, sF hbox htok (fun _ h => h) (Nat.le_refl _) ?_⟩
  simp [packA, rightP, e1]
theorem validP_c (g : Gr) (p : Mo) (hg : g.Fit) (hp : p.Fit) (tok : Tks) (nt : Nat) : DCall Tryz.prog 91 [g.av, p.av] tok nt (I (validP g p)) tok nt := by
 intro box nb
 have h1 := graphValid_c g hg
 have h2 := fun h => part_c g p hg h hp
 refine sB Tryz.func91 Tryz.ntmps91 ?_
 intro hbox htok
 simp only at hbox htok
 apply AL.start
 try (simp)
 repeat (refine sR ?_; simp)
 refine Stop.of_d (h1 _ _) ?_
 simp
 try (simp)
 repeat (refine sR ?_; simp)
 by_cases e1 : validG g = 0
 ·simp only [e1]
  refine sC ?_
  simp
  try (simp)
  repeat (refine sR ?_; simp)
  refine Stop.of_d (h2 e1 _ _) ?_
  simp
  try (simp)
  repeat (refine sR ?_; simp)
  refine sT ?_
  try simp only [AU]
  refine ⟨by simp, sF hbox htok (fun _ h => h) (Nat.le_refl _) ?_⟩
  simp [packA, validP, e1]
 ·have b1 : (validG g != 0) = true := by simp [e1]
  simp only [b1]
  refine sC ?_
  simp
  try (simp)
  repeat (refine sR ?_; simp)
  refine sT ?_
  try simp only [AU]
  refine ⟨by simp, sF hbox htok (fun _ h => h) (Nat.le_refl _) ?_⟩
  simp [packA, validP, e1]
def stPx1 (g : Gr) (p : Mo) (nb : Nat) (box : Bxs) (x : Acc) : AState :=
 ⟨tl [(25, I x.i), (24, I p.nodes.length), (23, .d (ints p.nodes)), (8, .ptr (nb + 8) 0 0), (5, .ptr (nb + 5) 0 0), (4, .ptr (nb + 4) 0 0), (3, .ptr (nb + 3) 0 0), (2, .ptr (nb + 2) 0 0)],
  lb nb box [(8, [[.osl 1 (rI (exN07 g p x.i)) x.own, .osl 0 [] .full]]), (3, [[.d (ints p.nodes), .d (ints p.edges)]]), (2, [[.d (ints g.nodes), .d (AM.edges g.edges)]]), (5, [[nilS, nilS]]), (4, [[nilS, nilS]])], x.tok, x.nt⟩
def stPx2 (g : Gr) (p : Mo) (own1 : Own) (nb : Nat) (box : Bxs) (x : Acc) : AState :=
 ⟨tl [(43, I x.i), (42, I p.edges.length), (41, .d (ints p.edges)), (8, .ptr (nb + 8) 0 0), (5, .ptr (nb + 5) 0 0), (4, .ptr (nb + 4) 0 0), (3, .ptr (nb + 3) 0 0), (2, .ptr (nb + 2) 0 0)],
  lb nb box [(8, [[.d (ints (exN07 g p p.nodes.length)), .osl 3 (rE (exE07 g p x.i)) x.own]]), (3, [[.d (ints p.nodes), .d (ints p.edges)]]), (2, [[.d (ints g.nodes), .d (AM.edges g.edges)]]), (5, [[nilS, nilS]]), (4, [[nilS, nilS]])], x.tok, x.nt⟩
theorem extractP_c (g : Gr) (p : Mo) (hg : g.Fit) (hp : p.Fit) (h : VP g p) (tok : Tks) (nt : Nat) : DCall Tryz.prog 92 [g.av, p.av] tok nt (.tup [(exG g p).av, p.av, I 0]) tok nt := by
 intro box nb
 have h1 := validP_c g p hg hp
 rw [h.v] at h1
 refine sB Tryz.func92 Tryz.ntmps92 ?_
 intro hbox htok
 simp only at hbox htok
 apply AL.start
 try (simp)
 repeat (refine sR ?_; simp)
 refine Stop.of_d (h1 _ _) ?_
 simp
 try (simp)
 repeat (refine sR ?_; simp)
 refine sC ?_
 simp
 try (simp)
 repeat (refine sR ?_; simp)
 refine sN ?_
 have hpn := hp.n
 have hpe := hp.e
 refine AL.loopT (stPx1 g p nb box) (fun x => x.i ≤ p.nodes.length ∧ TK tok nt x.tok x.nt [x.own]) (fun x => p.nodes.length - x.i) ⟨0, .full, tok, nt⟩ ⟨Nat.zero_le _, (TK.start htok).full⟩ (Weaks.mk (Nat.le_refl _) rfl (by simp [ToL, lk]) (by simp [BoxL, lk, exN07_zero])) ?_
 rintro ⟨i, own, tok', nt'⟩ S ⟨hi, htk⟩ hS
 simp only [stPx1] at hS hi htk
 subst hS
 have hw := sW (i := i) (by omega)
 try (simp)
 repeat (refine sR ?_; simp)
 refine sC ?_
 simp
 refine ⟨fun hlt => ?_, fun hge => ?_⟩
 ·obtain ⟨r1, r2⟩ := h.n _ (List.getElem_mem hlt)
  have r3 : p.nodes[i].toNat < g.nodes.length := by omega
  try (simp [hlt, r1, r2, r3])
  repeat (refine sR ?_; simp [hlt, r1, r2, r3])
  refine ⟨⟨by have := exN07_len g p i; omega, htk.live⟩, ?_⟩
  try (simp [hw])
  repeat (refine sR ?_; simp [hw])
  refine sE ?_
  exact ⟨⟨i + 1, _, _, _⟩, ⟨hlt, htk.app⟩, by simp only; omega, Weaks.mk htk.app.le rfl (by simp [ToL, lk]) (by simp [BoxL, lk, exN07_succ g p hlt, r3])⟩
 ·refine sX ?_
  simp only [AU, ↓reduceIte]
  have : i = p.nodes.length := by omega
  subst this
  try (simp)
  repeat (refine sR ?_; simp)
  refine sN ?_
  refine AL.loopT (stPx2 g p own nb box) (fun x => x.i ≤ p.edges.length ∧ TK tok nt x.tok x.nt [x.own]) (fun x => p.edges.length - x.i) ⟨0, .full, tok', nt'⟩ ⟨Nat.zero_le _, htk.tail.full⟩ (Weaks.mk htk.le rfl (by simp [ToL, lk]) (by simp [BoxL, lk, exE07_zero])) ?_
  rintro ⟨i, own2, tok2, nt2⟩ S ⟨hi, htk2⟩ hS
  simp only [stPx2] at hS hi htk2
  subst hS
  have hw := sW (i := i) (by omega)
  have hh := fun v => search_c p.nodes v hp.n h.sn
  try (simp)
  repeat (refine sR ?_; simp)
  refine sC ?_
  simp
  refine ⟨fun hlt => ?_, fun hge => ?_⟩
  ·obtain ⟨r1, r2⟩ := h.e _ (List.getElem_mem hlt)
   have r3 : p.edges[i].toNat < g.edges.length := by omega
   have hE : exE1 g p p.edges[i] = ⟨g.edges[p.edges[i].toNat].ty, indexI p.nodes g.edges[p.edges[i].toNat].fr, indexI p.nodes g.edges[p.edges[i].toNat].to⟩ := by
    have q2 : g.edges.getD p.edges[i].toNat default = g.edges[p.edges[i].toNat] := by simp [r3]
    rw [exE1, q2]
   have hsucc := exE07_succ g p hlt
   rw [hE] at hsucc
   have hcc := h.c _ (List.getElem_mem hlt)
   have q3 : g.edges.getD p.edges[i].toNat default = g.edges[p.edges[i].toNat] := by simp [r3]
   rw [q3] at hcc
   have hh1 := hh g.edges[p.edges[i].toNat].fr
   have hh2 := hh g.edges[p.edges[i].toNat].to
   rw [lowI_index h.sn hcc.1] at hh1
   rw [lowI_index h.sn hcc.2] at hh2
   refine sR ?_
   simp [hlt]
   refine sR ?_
   simp [r1, r2, r3]
   generalize g.edges[p.edges[i].toNat] = x at *
   try (simp)
   repeat (refine sR ?_; simp)
   refine Stop.of_d (hh1 _ _) ?_
   simp
   try (simp)
   repeat (refine sR ?_; simp)
   refine Stop.of_d (hh2 _ _) ?_
   simp
   try (simp)
   repeat (refine sR ?_; simp)
   refine ⟨⟨by have := exE07_len g p i; omega, htk2.live⟩, ?_⟩
   try (simp [hw])
   repeat (refine sR ?_; simp [hw])
   refine sE ?_
   exact ⟨⟨i + 1, _, _, _⟩, ⟨hlt, htk2.app⟩, by simp only; omega, Weaks.mk htk2.app.le rfl (by simp [ToL, lk]) (by simp [BoxL, lk, hsucc])⟩
  ·refine sX ?_
   simp only [AU, ↓reduceIte]
   have : i = p.edges.length := by omega
   subst this
   have c1 := clone_c p.nodes hp.n
   have c2 := clone_c p.edges hp.e
   try (simp)
   repeat (refine sR ?_; simp)
   refine Stop.of_d (c1 _ _) ?_
   simp
   try (simp)
   repeat (refine sR ?_; simp)
   refine Stop.of_d (c2 _ _) ?_
   simp
   have htk3 := htk2.full.app.full.app
   try (simp)
   repeat (refine sR ?_; simp)
   refine sT ?_
   try simp only [AU]
   refine ⟨by simp, sF hbox htok htk3.old htk3.le ?_⟩
   simp [packA, exG_07]
end Go.AM
namespace Go.AM
open Go Go.Proofs
structure Ru where
 name : ByteArray
 lg : Gr
 lsl : List Sl
 lv : Int
 lte : List Te
 rg : Gr
 rsl : List Sl
 rv : Int
 rte : List Te
 k : Mo
 i : Mo
 inj : Bool
 c : Cd
abbrev Ru.row (r : Ru) : List AV := [.d (.raw (.string r.name)), .d (ints r.lg.nodes), .d (AM.edges r.lg.edges), .d (slots r.lsl), I r.lv, .d (tests r.lte), .d (ints r.rg.nodes), .d (AM.edges r.rg.edges), .d (slots r.rsl), I r.rv, .d (tests r.rte),
 .d (ints r.k.nodes), .d (ints r.k.edges), .d (ints r.i.nodes), .d (ints r.i.edges), B r.inj, I r.c.kind, .d (conds r.c.kids), .d (ints r.c.m.nodes), .d (ints r.c.m.edges), .d (ints r.c.g.nodes), .d (AM.edges r.c.g.edges), .d (slots r.c.sl), I r.c.vars, .d (tests r.c.te)]
abbrev Ru.av (r : Ru) : AV := .agg r.row
structure Ru.Fit (r : Ru) : Prop where
 lg : r.lg.Fit
 rg : r.rg.Fit
 k : r.k.Fit
 i : r.i.Fit
 ls : r.lsl.length ≤ bigN
 lt : r.lte.length ≤ bigN
 rs : r.rsl.length ≤ bigN
 rt : r.rte.length ≤ bigN
abbrev spAv (s : Sp) : AV := .agg [.d (ints s.l.nodes), .d (AM.edges s.l.edges), .d (ints s.r.nodes), .d (AM.edges s.r.edges), .d (ints s.k.nodes), .d (ints s.k.edges), .d (ints s.i.nodes), .d (ints s.i.edges)]
def Ru.sp (r : Ru) : Sp := ⟨r.lg, r.rg, r.k, r.i⟩
def Ru.plainL (r : Ru) : Prop := r.lsl.length + r.lte.length = 0 ∧ r.lv = 0
def Ru.plainR (r : Ru) : Prop := r.rsl.length + r.rte.length = 0 ∧ r.rv = 0
instance (r : Ru) : Decidable r.plainL := inferInstanceAs (Decidable (_ ∧ _))
instance (r : Ru) : Decidable r.plainR := inferInstanceAs (Decidable (_ ∧ _))
def strR (r : Ru) : Int :=
 if validG r.lg ≠ 0 then validG r.lg else if validG r.rg ≠ 0 then validG r.rg else if validP r.lg r.k ≠ 0 then validP r.lg r.k
 else if validM (exG r.lg r.k) r.rg r.i ≠ 0 then validM (exG r.lg r.k) r.rg r.i else if injM (exG r.lg r.k) r.rg r.i = false then 11
 else if r.plainL ∧ r.plainR ∧ r.inj = true then 0 else 8
theorem strR_zero {r : Ru} (h : strR r = 0) : SpOk r.sp ∧ validG r.lg = 0 ∧ validG r.rg = 0 := by
 unfold strR at h
 split at h
 ·contradiction
 ·split at h
  ·contradiction
  ·split at h
   ·contradiction
   ·split at h
    ·contradiction
    ·split at h
     ·cases h
     ·rename_i h1 h2 h3 h4 h5
      exact ⟨⟨VP.of (Decidable.not_not.1 h3), Emb.of (show injM (exG r.lg r.k) r.rg r.i = true by simpa using h5)⟩, Decidable.not_not.1 h1, Decidable.not_not.1 h2⟩
theorem mem_indexI {l m : List Int} (h : ∀ x ∈ l, x ∈ m) : ∀ i (hi : i < l.length), 0 ≤ indexI m l[i] ∧ indexI m l[i] < m.length := fun i hi => by
 have := indexI_in (h _ (List.getElem_mem hi))
 exact ⟨this.1, this.2.1⟩
def mapK (f : Int → Int) (l : List Int) (i : Nat) : List Int := (l.take i).map f
theorem mapK_zero (f : Int → Int) (l : List Int) : mapK f l 0 = [] := rfl
theorem mapK_succ (f : Int → Int) (l : List Int) {i : Nat} (h : i < l.length) : mapK f l (i + 1) = mapK f l i ++ [f l[i]] := by
 unfold mapK
 rw [← List.take_append_getElem h, List.map_append]; rfl
theorem mapK_all (f : Int → Int) (l : List Int) : mapK f l l.length = l.map f := by simp [mapK]
theorem mapK_len (f : Int → Int) (l : List Int) (i : Nat) : (mapK f l i).length ≤ i := by simp [mapK]; omega
end Go.AM
namespace Go.AM
open Go Go.Proofs
end Go.AM
namespace Go.Proofs.YtfgcpmeadeehhaaGreat.values
open Go Go.Proofs Go.RowKit Go.Shelf
attribute [local go_sem] Oper.semAt_some
def upto {α : Type} (f : Nat → α) (k : Nat) : List α := (List.range k).map f
theorem upto_length {α : Type} (f : Nat → α) (k : Nat) : (upto f k).length = k := by simp [upto]
theorem upto_all (zs : List Int) : upto (fun j => zs[j]?.getD 0) zs.length = zs := by
 apply List.ext_getElem
 ·simp [upto]
 ·intro i h1 h2
  simp [upto, h2]
theorem info3 : (Tryz.prog.info? 3).map (fun i => (i.zero, i.size, i.bytes)) = some (some (.int .i64 0), 1, 8) := by kernel_rfl
end Go.Proofs.YtfgcpmeadeehhaaGreat.values
namespace Go.Proofs.YtfgcpmeadeehhaaGreat.values
open Go Go.Proofs Go.RowKit Go.Shelf Go.Sort
end Go.Proofs.YtfgcpmeadeehhaaGreat.values
namespace Go.AM
open Go Go.Proofs Go.RowKit
end Go.AM
namespace Go.Proofs.YtfgcpmeadeehhaaGreat.sorted34
open Go Go.Proofs Go.RowKit Go.Shelf Go.Sort
set_option maxHeartbeats 2000000 in
set_option maxRecDepth 100000 in
theorem any (b off n c : Nat) (zs : List Int) (w : World) (hz : zs.length = n) (hbig : n * 8 ≤ 140737488355328) (hc : ∀ j, j < zs.length → w.cell? ⟨b, off + j, none⟩ = some (.int .i64 (zs.getD j 0))) :
    Calls Tryz.prog 126 #[.slice (some ⟨b, off, none⟩) n c] w fun e w' => ∃ v, e = .returned v ∧ w'.ownsRow w.heap.size 3 1 v zs.length ((zs.mergeSort fun x y => decide (x ≤ y)).map (Value.int .i64)) ∧ Below w.heap.size w w' := by
  have hclone := Tryz.slices_Clone_int b off n c zs w (by omega) hbig hc
  rw [List.take_of_length_le (by omega)] at hclone
  clear hc
  go_enter Tryz.func126, Tryz.ntmps126
  go_wp2_with (first
    | (go_at_call 58; refine hclone.mono ?_; rintro e w1 ⟨v1, rfl, hown, hnn, hbel⟩
       have hown' := hown
       obtain ⟨g, cap, rfl, hbg, hgl, hncap, hcm, hlen2, hH⟩ := Lib.holds_of_ownsRow hown hnn
       have hsort := Tryz.slices_Sort_int g 0 cap zs w1 hH hgl (by omega)
       rw [hlen2] at hsort
       have X : Aside (w1.ownsRow w.heap.size 3 1 (.slice (some ⟨g, 0, none⟩) n cap) n (zs.map (Value.int .i64)) ∧ Below w.heap.size w w1 ∧ w.heap.size ≤ g ∧ g < w1.heap.size ∧ n ≤ cap ∧ cap ≤ maxLen) := ⟨hown', hbel, hbg, hgl, hncap, hcm⟩
       clear hown hown' hbel hH hnn)
    | (go_at_call 152; refine hsort.mono ?_; rintro e w2 ⟨rfl, nn, os, rfl⟩))
  go_ret
  obtain ⟨x1, x2, x3, x4, x5, x6⟩ := X.out
  rcases x1.2 with ⟨e0, _⟩ | ⟨g', cap', cur, hv, hbase, hb, h1, h2, h3, h4⟩
  · cases e0
  cases hv
  subst hz
  exact ⟨_, rfl, ownsRow_sortedI (by simp) hbase hb h1 h2 h3, x2.grown (grownBy_sortedI _) x2.size (fun j hj => by cases hj; exact hbase)⟩
set_option maxHeartbeats 2000000 in
set_option maxRecDepth 100000 in
theorem zero (a : Addr) (c : Nat) (w : World) : Calls Tryz.prog 126 #[.slice (some a) 0 c] w fun e w' => ∃ v, e = .returned v ∧ w'.ownsRow w.heap.size 3 1 v 0 [] ∧ Below w.heap.size w w' := by
  have hclone := Tryz.slices_Clone_int_zero a c w
  go_enter Tryz.func126, Tryz.ntmps126
  go_wp2_with (first
    | (go_at_call 58; refine hclone.mono ?_; rintro e w1 ⟨v1, rfl, hown, hnn, hbel⟩
       have hown' := hown
       obtain ⟨g, cap, rfl, _, _, _, _, _, _⟩ := Lib.holds_of_ownsRow (enc := Value.int .i64) (zs := []) hown hnn
       have X : Aside (w1.ownsRow w.heap.size 3 1 (.slice (some ⟨g, 0, none⟩) 0 cap) 0 [] ∧ Below w.heap.size w w1) := ⟨hown', hbel⟩
       clear hown hown' hbel hnn)
    | (go_at_call 152; refine (Tryz.slices_Sort_int_none _ _ _).mono ?_; rintro e w2 ⟨rfl, rfl⟩))
  go_ret
  exact ⟨_, rfl, X.out.1, X.out.2⟩
set_option maxHeartbeats 2000000 in
set_option maxRecDepth 100000 in
theorem none (n c : Nat) (w : World) : Calls Tryz.prog 126 #[.slice none n c] w fun e w' => e = .returned (.slice none 0 0) ∧ Below w.heap.size w w' := by
 go_enter Tryz.func126, Tryz.ntmps126
 go_wp2_with (first
  | (go_at_call 58; refine (Tryz.slices_Clone_int_nil n c _).mono ?_; rintro e w1 ⟨rfl, rfl⟩)
  | (go_at_call 152; refine (Tryz.slices_Sort_int_none _ _ _).mono ?_; rintro e w2 ⟨rfl, rfl⟩))
 go_ret
 exact ⟨rfl, Below.refl _ _⟩
end Go.Proofs.YtfgcpmeadeehhaaGreat.sorted34
namespace Go.AM
open Go Go.Proofs Go.RowKit
theorem sorted34_c (l : List Int) (hl : l.length ≤ 1000000) (tok : Tks) (nt : Nat) : DCall Tryz.prog 126 [.d (ints l)] tok nt (.d (ints (sortI l))) tok nt := by
 intro box nb
 refine ⟨Enters.mk Tryz.func126 rfl (by kernel_rfl), fun G w vals hm hr => ?_⟩
 obtain ⟨hlen, hrv⟩ := hr
 match vals, hlen with
 | [v], _ =>
  have h0 := hrv 0 (by simp) (by simp)
  simp only [List.getElem_cons_zero] at h0
  cases h0 with
  | d h0 =>
   obtain ⟨A, cap, rfl, hcap, hmax, hA, hc⟩ := rvd_ints h0
   by_cases e : l = []
   ·subst e
    have e0 : sortI [] = [] := by simp [sortI]
    cases A with
    | none =>
     refine (YtfgcpmeadeehhaaGreat.sorted34.none _ cap w).mono ?_
     rintro e w' ⟨rfl, hb⟩
     exact ⟨_, _, _, G, rfl, ⟨rfl, rfl⟩, rfl, relM_below hm hb, .d (by rw [e0]; exact .sl (es := []) (fun _ _ => default) (Nat.le_refl _) (by decide) (by simp) (by simp) (by simp) (by simp)), le_below hm hb, fun k hk => ⟨hk, rfl⟩⟩
    | some a =>
     refine (YtfgcpmeadeehhaaGreat.sorted34.zero a cap w).mono ?_
     rintro e w' ⟨v, rfl, ho, hb⟩
     exact ⟨_, _, _, G, rfl, ⟨rfl, rfl⟩, rfl, relM_below hm hb, .d (by rw [e0]; exact rvd_owns (xs := []) hm ho), le_below hm hb, fun k hk => ⟨hk, rfl⟩⟩
   ·obtain ⟨a, rfl⟩ := hA e
    have hp : 0 < l.length := List.length_pos_iff.2 e
    have hc' := hc a rfl
    have hs : a.spot = none := by
     cases hsp : a.spot with
     | none => rfl
     | some q =>
      exfalso
      have := hc' 0 hp
      simp only [World.cell?, Addr.add, hsp, Option.isSome_some, ↓reduceIte] at this
      split at this <;> simp at this
    obtain ⟨b, off, sp⟩ := a
    simp only at hs
    subst hs
    refine (YtfgcpmeadeehhaaGreat.sorted34.any b off l.length cap l w rfl (by omega) fun j hj => ?_).mono ?_
    ·have h1 := hc' j hj
     unfold Addr.add at h1
     split at h1
     ·rename_i e; subst e; exact h1
     ·exact h1
    ·rintro e w' ⟨v, rfl, hown, hb⟩
     have hl2 : l.length = (sortI l).length := by simp [sortI]
     rw [hl2] at hown
     exact ⟨v, _, _, G, rfl, ⟨rfl, rfl⟩, rfl, relM_below hm hb, .d (rvd_owns hm hown), le_below hm hb, fun k hk => ⟨hk, rfl⟩⟩
end Go.AM
namespace Go.AM
open Go Go.Proofs
def goneK (images keep : List Int) (i : Nat) : List Int := ((List.range i).filter fun (i : Nat) => decide ((i : Int) ∉ keep)).map fun (i : Nat) => images.getD i 0
theorem goneK_zero (images keep : List Int) : goneK images keep 0 = [] := rfl
theorem goneK_succ (images keep : List Int) (i : Nat) : goneK images keep (i + 1) = if (i : Int) ∈ keep then goneK images keep i else goneK images keep i ++ [images.getD i 0] := by
 unfold goneK
 rw [List.range_succ, List.filter_append, List.map_append]
 by_cases h : (i : Int) ∈ keep
 ·simp [h]
 ·simp [h]
theorem goneK_len (images keep : List Int) (i : Nat) : (goneK images keep i).length ≤ i := by
 unfold goneK
 rw [List.length_map]
 have := List.length_filter_le (fun (i : Nat) => decide ((i : Int) ∉ keep)) (List.range i)
 simpa using this
def restX (n : Nat) (l : List Int) : List Int := ((List.range n).filter fun (k : Nat) => decide ((k : Int) ∉ l)).map fun (k : Nat) => (k : Int)
theorem restX_succ (l : List Int) (i : Nat) : restX (i + 1) l = if (i : Int) ∈ l then restX i l else restX i l ++ [(i : Int)] := by
 unfold restX
 rw [List.range_succ, List.filter_append, List.map_append]
 by_cases h : (i : Int) ∈ l
 ·simp [h]
 ·simp [h]
theorem restX_len (n : Nat) (l : List Int) : (restX n l).length ≤ n := by
 unfold restX
 rw [List.length_map]
 have := List.length_filter_le (fun (k : Nat) => decide ((k : Int) ∉ l)) (List.range n)
 simpa using this
theorem restX_zero (l : List Int) : restX 0 l = [] := rfl
def dangP (g : Gr) (keep m : Mo) (i : Nat) : Bool := decide ((i : Int) ∉ m.edges ∧ ((g.edges.getD i default).fr ∈ goneI m.nodes keep.nodes ∨ (g.edges.getD i default).to ∈ goneI m.nodes keep.nodes))
def dangI (g : Gr) (keep m : Mo) (n : Nat) : List Int := ((List.range n).filter (dangP g keep m)).map fun (k : Nat) => (k : Int)
theorem dangI_succ (g : Gr) (keep m : Mo) (i : Nat) : dangI g keep m (i + 1) = if dangP g keep m i = true then dangI g keep m i ++ [(i : Int)] else dangI g keep m i := by
 unfold dangI
 rw [List.range_succ, List.filter_append, List.map_append]
 by_cases h : dangP g keep m i = true
 ·simp [h]
 ·simp [h]
theorem dangI_len (g : Gr) (keep m : Mo) (n : Nat) : (dangI g keep m n).length ≤ n := by
 unfold dangI
 rw [List.length_map]
 have := List.length_filter_le (dangP g keep m) (List.range n)
 simpa using this
theorem dangI_any (g : Gr) (keep m : Mo) : decide (0 < (dangI g keep m g.edges.length).length) = dangL g keep m := by
 rw [Bool.eq_iff_iff, decide_eq_true_eq, dangL, List.any_eq_true, dangI, List.length_map, List.length_pos_iff_exists_mem]
 constructor
 ·rintro ⟨k, hk⟩; have := List.mem_filter.1 hk; exact ⟨k, this.1, this.2⟩
 ·rintro ⟨k, h1, h2⟩; exact ⟨k, List.mem_filter.2 ⟨h1, h2⟩⟩
theorem dangI_zero (g : Gr) (keep m : Mo) : dangI g keep m 0 = [] := rfl
def cmpR (l g : Gr) (keep m : Mo) : Mo × Int := if dangL g keep m = true then (⟨[], []⟩, 14) else (cmpl g keep m, 0)
theorem restX_rest (n : Nat) (images keep : List Int) : restX n (goneI images keep) = restI n images keep := rfl
theorem goneI_len (images keep : List Int) : (goneI images keep).length ≤ images.length := goneK_len images keep images.length
end Go.AM
namespace Go.AM
open Go Go.Proofs
abbrev glAv (l g : Gr) (keep m : Mo) : AV := .agg [.d (ints l.nodes), .d (AM.edges l.edges), .d (ints g.nodes), .d (AM.edges g.edges), .d (ints keep.nodes), .d (ints keep.edges), .d (ints m.nodes), .d (ints m.edges)]
theorem cgiven_c (l g : Gr) (keep m : Mo) (hl : l.Fit) (hg : g.Fit) (hm : m.Fit) (hk : keep.Fit) (tok : Tks) (nt : Nat) :
  DCall Tryz.prog 85 [glAv l g keep m] tok nt (I (if validM l g m ≠ 0 then validM l g m else validP l keep)) tok nt := by
 intro box nb
 have h1 := valid51_c l g m hl hg
 have h2 := validP_c l keep hl hk
 refine sB Tryz.func85 Tryz.ntmps85 ?_
 intro hbox htok
 simp only at hbox htok
 apply AL.start
 try (simp)
 repeat (refine sR ?_; simp)
 refine Stop.of_d (h1 _ _) ?_
 simp
 try (simp)
 repeat (refine sR ?_; simp)
 by_cases e1 : validM l g m = 0
 ·simp only [e1]
  refine sC ?_
  simp
  try (simp)
  repeat (refine sR ?_; simp)
  refine Stop.of_d (h2 _ _) ?_
  simp
  try (simp)
  repeat (refine sR ?_; simp)
  refine sT ?_
  try simp only [AU]
  refine ⟨by simp, sF hbox htok (fun _ h => h) (Nat.le_refl _) ?_⟩
  simp [packA, e1]
 ·have b1 : (validM l g m != 0) = true := by simp [e1]
  simp only [b1]
  refine sC ?_
  simp
  try (simp)
  repeat (refine sR ?_; simp)
  refine sT ?_
  try simp only [AU]
  refine ⟨by simp, sF hbox htok (fun _ h => h) (Nat.le_refl _) ?_⟩
  simp [packA, e1]
def stDe (l g : Gr) (keep m : Mo) (nb : Nat) (box : Bxs) (x : Acc) : AState :=
 ⟨tl [(10, I x.i), (9, I m.nodes.length), (8, .d (ints m.nodes)), (3, .osl 1 (rI (goneK m.nodes keep.nodes x.i)) x.own), (1, .ptr (nb + 1) 0 0)], lb nb box [(1, [[.d (ints l.nodes), .d (AM.edges l.edges), .d (ints g.nodes), .d (AM.edges g.edges), .d (ints keep.nodes), .d (ints keep.edges), .d (ints m.nodes), .d (ints m.edges)]])], x.tok, x.nt⟩
theorem deleted_c (l g : Gr) (keep m : Mo) (hm : m.Fit) (hk : keep.Fit) (tok : Tks) (nt : Nat) : DCall Tryz.prog 151 [glAv l g keep m] tok nt (.d (ints (goneI m.nodes keep.nodes))) tok nt := by
 intro box nb
 have hh := fun v => contains_c keep.nodes v hk.n
 refine sB Tryz.func151 Tryz.ntmps151 ?_
 intro hbox htok
 simp only at hbox htok
 apply AL.start
 try (simp)
 repeat (refine sR ?_; simp)
 refine sN ?_
 have hmn := hm.n
 refine AL.loopT (stDe l g keep m nb box) (fun x => x.i ≤ m.nodes.length ∧ TK tok nt x.tok x.nt [x.own]) (fun x => m.nodes.length - x.i) ⟨0, .full, tok, nt⟩ ⟨Nat.zero_le _, (TK.start htok).full⟩ (Weaks.mk (Nat.le_refl _) rfl (by simp [ToL, lk, goneK_zero]) (by simp [BoxL, lk])) ?_
 rintro ⟨i, own, tok', nt'⟩ S ⟨hi, htk⟩ hS
 simp only [stDe] at hS hi htk
 subst hS
 have hw := sW (i := i) (by omega)
 have hsc := goneK_succ m.nodes keep.nodes i
 have hlen := goneK_len m.nodes keep.nodes i
 try (simp)
 repeat (refine sR ?_; simp)
 refine sC ?_
 simp
 refine ⟨fun hlt => ?_, fun hge => ?_⟩
 ·have hg : m.nodes.getD i 0 = m.nodes[i] := by simp [hlt]
  rw [hg] at hsc
  try (simp [hlt])
  repeat (refine sR ?_; simp [hlt])
  refine Stop.of_d (hh _ _ _) ?_
  simp
  by_cases hmm : (i : Int) ∈ keep.nodes
  ·rw [if_pos hmm] at hsc
   simp only [hmm]
   try (simp)
   repeat (refine sR ?_; simp)
   refine sC ?_
   simp
   try (simp [hw])
   repeat (refine sR ?_; simp [hw])
   refine sE ?_
   exact ⟨⟨i + 1, own, tok', nt'⟩, ⟨hlt, htk⟩, by simp only; omega, Weaks.mk htk.le rfl (by simp [ToL, lk, hsc]) (by simp [BoxL, lk])⟩
  ·rw [if_neg hmm] at hsc
   simp only [hmm]
   try (simp)
   repeat (refine sR ?_; simp)
   refine sC ?_
   simp
   try (simp)
   repeat (refine sR ?_; simp)
   refine ⟨⟨by omega, htk.live⟩, ?_⟩
   try (simp [hw])
   repeat (refine sR ?_; simp [hw])
   refine sE ?_
   exact ⟨⟨i + 1, _, _, _⟩, ⟨hlt, htk.app⟩, by simp only; omega, Weaks.mk htk.app.le rfl (by simp [ToL, lk, hsc]) (by simp [BoxL, lk])⟩
 ·refine sX ?_
  simp only [AU, ↓reduceIte]
  have : i = m.nodes.length := by omega
  subst this
  try (simp)
  repeat (refine sR ?_; simp)
  have e : goneI m.nodes keep.nodes = goneK m.nodes keep.nodes m.nodes.length := rfl
  refine sT ?_
  try simp only [AU]
  refine ⟨by simp, sF hbox htok htk.old htk.le ?_⟩
  simp [packA, e]
def stCp (images keep : List Int) (nb : Nat) (box : Bxs) (tok : Tks) (nt : Nat) (i : Nat) : AState := ⟨tl [(10, I i), (9, I images.length), (8, .d (ints images)), (0, .d (ints images)), (1, .d (ints keep)), (5, .osl 0 [] .full)], lb nb box [], tok, nt⟩
def stCpb (images keep : List Int) (i : Nat) (nb : Nat) (box : Bxs) (tok : Tks) (nt : Nat) (k : Nat) : AState := ⟨tl [(10, I i), (9, I images.length), (8, .d (ints images)), (0, .d (ints images)), (1, .d (ints keep)), (5, .osl 0 [] .full), (6, I i), (7, I k)], lb nb box [], tok, nt⟩
theorem cpairs_c (images keep : List Int) (h1 : images.length ≤ 1000000) (h2 : keep.length ≤ 1000000) (hn : images.Nodup) (tok : Tks) (nt : Nat) : DCall Tryz.prog 201 [.d (ints images), .d (ints keep)] tok nt (.d (.sl 2 [])) tok nt := by
 intro box nb
 refine sB Tryz.func201 Tryz.ntmps201 ?_
 intro hbox htok
 simp only at hbox htok
 apply AL.start
 try (simp)
 repeat (refine sR ?_; simp)
 refine sN ?_
 refine AL.loopT (stCp images keep nb box tok nt) (fun i => i ≤ images.length) (fun i => images.length - i) 0 (Nat.zero_le _) (Weaks.mk (Nat.le_refl _) rfl (by simp [ToL, lk]) trivial) ?_
 rintro i S hi hS
 simp only [stCp] at hS
 subst hS
 have hw := sW (i := i) (by omega)
 try (simp)
 repeat (refine sR ?_; simp)
 refine sC ?_
 simp
 refine ⟨fun hlt => ?_, fun hge => ?_⟩
 ·try (simp [hw])
  repeat (refine sR ?_; simp [hw])
  refine sN ?_
  refine AL.loopT (stCpb images keep i nb box tok nt) (fun k => i < k ∧ k ≤ images.length) (fun k => images.length - k) (i + 1) ⟨Nat.lt_succ_self _, hlt⟩ (Weaks.mk (Nat.le_refl _) rfl (by simp [ToL, lk]) trivial) ?_
  rintro k S ⟨hik, hk⟩ hS
  simp only [stCpb] at hS
  subst hS
  have hwk := sW (i := k) (by omega)
  try (simp)
  repeat (refine sR ?_; simp)
  refine sC ?_
  simp
  refine ⟨fun hlk => ?_, fun hge => ?_⟩
  ·have hne : (images[i] == images[k]) = false := by
    have := List.pairwise_iff_getElem.1 hn i k hlt hlk hik
    simpa using this
   try (simp [hlt, hlk, hne])
   repeat (refine sR ?_; simp [hlt, hlk, hne])
   refine sC ?_
   simp
   try (simp [hwk])
   repeat (refine sR ?_; simp [hwk])
   refine sE ?_
   exact ⟨k + 1, ⟨by omega, hlk⟩, by omega, Weaks.mk (Nat.le_refl _) rfl (by simp [ToL, lk]) trivial⟩
  ·refine sX ?_
   simp only [AU, ↓reduceIte]
   try (simp [hw])
   repeat (refine sR ?_; simp [hw])
   refine sE ?_
   exact ⟨i + 1, hlt, by omega, Weaks.mk (Nat.le_refl _) rfl (by simp [ToL, lk]) trivial⟩
 ·refine sX ?_
  simp only [AU, ↓reduceIte]
  try (simp)
  repeat (refine sR ?_; simp)
  refine sT ?_
  try simp only [AU]
  refine ⟨by simp, sF hbox htok (fun _ h => h) (Nat.le_refl _) ?_⟩
  simp [packA]
def stCd (l g : Gr) (keep m : Mo) (nb : Nat) (box : Bxs) (x : Acc) : AState :=
 ⟨tl [(13, I x.i), (12, I g.edges.length), (11, .d (AM.edges g.edges)), (4, .osl 1 (rI (dangI g keep m x.i)) x.own), (3, .d (ints (goneI m.nodes keep.nodes))), (1, .ptr (nb + 1) 0 0)], lb nb box [(1, [[.d (ints l.nodes), .d (AM.edges l.edges), .d (ints g.nodes), .d (AM.edges g.edges), .d (ints keep.nodes), .d (ints keep.edges), .d (ints m.nodes), .d (ints m.edges)]])], x.tok, x.nt⟩
theorem cdangling_c (l g : Gr) (keep m : Mo) (hg : g.Fit) (hm : m.Fit) (hk : keep.Fit) (tok : Tks) (nt : Nat) : DCall Tryz.prog 86 [glAv l g keep m] tok nt (.d (ints (dangI g keep m g.edges.length))) tok nt := by
 intro box nb
 have hh := fun v => contains_c m.edges v hm.e
 have hgo := deleted_c l g keep m hm hk
 have hh2 := fun v => contains_c (goneI m.nodes keep.nodes) v (by have := goneI_len m.nodes keep.nodes; have := hm.n; omega)
 refine sB Tryz.func86 Tryz.ntmps86 ?_
 intro hbox htok
 simp only at hbox htok
 apply AL.start
 try (simp)
 repeat (refine sR ?_; simp)
 refine Stop.of_d (hgo _ _) ?_
 simp
 try (simp)
 repeat (refine sR ?_; simp)
 refine sN ?_
 have hge := hg.e
 refine AL.loopT (stCd l g keep m nb box) (fun x => x.i ≤ g.edges.length ∧ TK tok nt x.tok x.nt [x.own]) (fun x => g.edges.length - x.i) ⟨0, .full, tok, nt⟩ ⟨Nat.zero_le _, (TK.start htok).full⟩ (Weaks.mk (Nat.le_refl _) rfl (by simp [ToL, lk, dangI_zero]) (by simp [BoxL, lk])) ?_
 rintro ⟨i, own, tok', nt'⟩ S ⟨hi, htk⟩ hS
 simp only [stCd] at hS hi htk
 subst hS
 have hw := sW (i := i) (by omega)
 have hsc := dangI_succ g keep m i
 have hlen := dangI_len g keep m i
 try (simp)
 repeat (refine sR ?_; simp)
 refine sC ?_
 simp
 refine ⟨fun hlt => ?_, fun hge => ?_⟩
 ·have hg1 : g.edges.getD i default = g.edges[i] := by simp [hlt]
  have hP : dangP g keep m i = (decide ((i : Int) ∉ m.edges) && (decide (g.edges[i].fr ∈ goneI m.nodes keep.nodes) || decide (g.edges[i].to ∈ goneI m.nodes keep.nodes))) := by unfold dangP; rw [hg1]; simp
  have no : dangP g keep m i = false → dangI g keep m (i + 1) = dangI g keep m i := fun h => by rw [hsc, if_neg (by simp [h])]
  have yes : dangP g keep m i = true → dangI g keep m (i + 1) = dangI g keep m i ++ [(i : Int)] := fun h => by rw [hsc, if_pos h]
  try (simp [hlt])
  repeat (refine sR ?_; simp [hlt])
  refine Stop.of_d (hh _ _ _) ?_
  simp
  by_cases hmm : (i : Int) ∈ m.edges
  ·have no := no (by rw [hP]; simp [hmm])
   simp only [hmm]
   try (simp)
   repeat (refine sR ?_; simp)
   refine sC ?_
   simp
   try (simp [hw])
   repeat (refine sR ?_; simp [hw])
   refine sE ?_
   exact ⟨⟨i + 1, own, tok', nt'⟩, ⟨hlt, htk⟩, by simp only; omega, Weaks.mk htk.le rfl (by simp [ToL, lk, no]) (by simp [BoxL, lk])⟩
  ·simp only [hmm]
   try (simp)
   repeat (refine sR ?_; simp)
   refine Stop.of_d (hh2 _ _ _) ?_
   simp
   by_cases h1 : g.edges[i].fr ∈ goneI m.nodes keep.nodes
   ·have yes := yes (by rw [hP]; simp [hmm, h1])
    simp only [h1]
    try (simp)
    repeat (refine sR ?_; simp)
    refine sC ?_
    simp
    try (simp)
    repeat (refine sR ?_; simp)
    refine ⟨⟨by omega, htk.live⟩, ?_⟩
    try (simp [hw])
    repeat (refine sR ?_; simp [hw])
    refine sE ?_
    exact ⟨⟨i + 1, _, _, _⟩, ⟨hlt, htk.app⟩, by simp only; omega, Weaks.mk htk.app.le rfl (by simp [ToL, lk, yes]) (by simp [BoxL, lk])⟩
   ·simp only [h1]
    try (simp)
    repeat (refine sR ?_; simp)
    refine Stop.of_d (hh2 _ _ _) ?_
    simp
    by_cases h2 : g.edges[i].to ∈ goneI m.nodes keep.nodes
    ·have yes := yes (by rw [hP]; simp [hmm, h2])
     simp only [h2]
     try (simp)
     repeat (refine sR ?_; simp)
     refine sC ?_
     simp
     try (simp)
     repeat (refine sR ?_; simp)
     refine ⟨⟨by omega, htk.live⟩, ?_⟩
     try (simp [hw])
     repeat (refine sR ?_; simp [hw])
     refine sE ?_
     exact ⟨⟨i + 1, _, _, _⟩, ⟨hlt, htk.app⟩, by simp only; omega, Weaks.mk htk.app.le rfl (by simp [ToL, lk, yes]) (by simp [BoxL, lk])⟩
    ·have no := no (by rw [hP]; simp [hmm, h1, h2])
     simp only [h2]
     try (simp)
     repeat (refine sR ?_; simp)
     refine sC ?_
     simp
     try (simp [hw])
     repeat (refine sR ?_; simp [hw])
     refine sE ?_
     exact ⟨⟨i + 1, own, tok', nt'⟩, ⟨hlt, htk⟩, by simp only; omega, Weaks.mk htk.le rfl (by simp [ToL, lk, no]) (by simp [BoxL, lk])⟩
 ·refine sX ?_
  simp only [AU, ↓reduceIte]
  have : i = g.edges.length := by omega
  subst this
  try (simp)
  repeat (refine sR ?_; simp)
  refine sT ?_
  try simp only [AU]
  refine ⟨by simp, sF hbox htok htk.old htk.le ?_⟩
  simp [packA, ]
def rowsB (bs : List Bool) : List (List AV) := bs.map fun b => [AV.d (.raw (.bool b))]
theorem rowsB_eq (bs : List Bool) : rowsB bs = rowsD (bs.map fun b => [D.raw (.bool b)]) := by simp [rowsB, rowsD]
@[simp] theorem set_rB (bs : List Bool) (i : Nat) (v : Bool) : (rowsB bs).set i [AV.d (.raw (.bool v))] = rowsB (bs.set i v) := by simp [rowsB, List.map_set]
@[simp] theorem rowsB_length (bs : List Bool) : (rowsB bs).length = bs.length := by simp [rowsB]
@[simp high] theorem rowsB_get {bs : List Bool} {i : Nat} (h : i < bs.length) : (rowsB bs)[i]? = some [AV.d (.raw (.bool bs[i]))] := by simp [rowsB, h]
@[simp] theorem rowsTo_B {p q : Nat → Prop} {fz : Option (Nat × Nat × List (List D))} (bs : List Bool) : RowsTo p q fz (rowsB bs) (rowsB bs) := by rw [rowsB_eq]; simp
def goneB (n : Nat) (images keep : List Int) : Nat → List Bool
 | 0 => List.replicate n false
 | i + 1 => if (i : Int) ∈ keep then goneB n images keep i else (goneB n images keep i).set (images.getD i 0).toNat true
theorem goneB_len (n : Nat) (images keep : List Int) : ∀ i, (goneB n images keep i).length = n
 | 0 => by simp [goneB]
 | i + 1 => by
  unfold goneB
  split
  ·exact goneB_len n images keep i
  ·rw [List.length_set]; exact goneB_len n images keep i
theorem goneB_get (n : Nat) (images keep : List Int) (hr : ∀ x ∈ images, 0 ≤ x ∧ x < n) : ∀ i, i ≤ images.length → ∀ k, k < n → (goneB n images keep i).getD k false = decide ((k : Int) ∈ goneK images keep i)
 | 0, _, k, hk => by simp [goneB, goneK_zero, hk]
 | i + 1, hi, k, hk => by
  have ih := goneB_get n images keep hr i (by omega) k hk
  have rg := hr _ (getD_mem (d := 0) (show i < images.length by omega))
  rw [goneK_succ]
  unfold goneB
  by_cases hm : (i : Int) ∈ keep
  ·rw [if_pos hm, if_pos hm]; exact ih
  ·rw [if_neg hm, if_neg hm]
   have hl := goneB_len n images keep i
   by_cases e : (images.getD i 0).toNat = k
   ·rw [e, List.getD_eq_getElem?_getD, List.getElem?_set_self (by omega)]
    have : (k : Int) = images.getD i 0 := by omega
    simp [this]
   ·rw [List.getD_eq_getElem?_getD, List.getElem?_set_ne e, ← List.getD_eq_getElem?_getD, ih]
    have : ¬ (k : Int) = images.getD i 0 := by omega
    rw [decide_eq_decide, List.mem_append, List.mem_singleton]
    simp only [this, or_false]
def stR1 (n : Nat) (images keep : List Int) (nb : Nat) (box : Bxs) (tok : Tks) (nt : Nat) (i : Nat) : AState :=
 ⟨tl [(17, I i), (16, I images.length), (15, .d (ints images)), (7, .msl (nb + 14) 0 n 1), (6, .osl 0 [] .full), (0, I n), (2, .d (ints keep))], lb nb box [(14, rowsB (goneB n images keep i))], tok, nt⟩
def stR2 (n : Nat) (images keep : List Int) (nb : Nat) (box : Bxs) (x : Acc) : AState :=
 ⟨tl [(32, I x.i), (31, I n), (30, .msl (nb + 14) 0 n 1), (10, .osl 1 (rI (restX x.i (goneI images keep))) x.own)], lb nb box [(14, rowsB (goneB n images keep images.length))], x.tok, x.nt⟩
theorem crest_c (n : Nat) (images keep : List Int) (hn : n ≤ 1000000) (h1 : images.length ≤ 1000000) (h2 : keep.length ≤ 1000000) (hr : ∀ x ∈ images, 0 ≤ x ∧ x < n) (tok : Tks) (nt : Nat) :
  DCall Tryz.prog 141 [I n, .d (ints images), .d (ints keep)] tok nt (.d (ints (restI n images keep))) tok nt := by
 intro box nb
 have hh := fun v => contains_c keep v h2
 refine sB Tryz.func141 Tryz.ntmps141 ?_
 intro hbox htok
 simp only at hbox htok
 apply AL.start
 try (simp)
 repeat (refine sR ?_; simp)
 refine ⟨by omega, ?_⟩
 try (simp)
 repeat (refine sR ?_; simp)
 refine sN ?_
 have hrep : List.replicate n [B false] = rowsB (goneB n images keep 0) := by simp [goneB, rowsB]
 refine AL.loopT (stR1 n images keep nb box tok nt) (fun i => i ≤ images.length) (fun i => images.length - i) 0 (Nat.zero_le _) (Weaks.mk (Nat.le_refl _) rfl (by simp [ToL, lk]) (by simp [BoxL, lk, hrep])) ?_
 rintro i S hi hS
 simp only [stR1] at hS
 subst hS
 have hw := sW (i := i) (by omega)
 have hgl := goneB_len n images keep i
 try (simp)
 repeat (refine sR ?_; simp)
 refine sC ?_
 simp
 refine ⟨fun hlt => ?_, fun hge => ?_⟩
 ·obtain ⟨r1, r2⟩ := hr _ (List.getElem_mem hlt)
  have r3 : images[i].toNat < n := by omega
  have hg : images.getD i 0 = images[i] := by simp [hlt]
  try (simp [hlt])
  repeat (refine sR ?_; simp [hlt])
  refine Stop.of_d (hh _ _ _) ?_
  simp
  by_cases hm : (i : Int) ∈ keep
  ·have hsc : goneB n images keep (i + 1) = goneB n images keep i := if_pos hm
   simp only [hm]
   try (simp)
   repeat (refine sR ?_; simp)
   refine sC ?_
   simp
   try (simp [hw])
   repeat (refine sR ?_; simp [hw])
   refine sE ?_
   exact ⟨i + 1, hlt, by omega, Weaks.mk (Nat.le_refl _) rfl (by simp [ToL, lk]) (by simp [BoxL, lk, hsc])⟩
  ·have hsc : goneB n images keep (i + 1) = (goneB n images keep i).set images[i].toNat true := by rw [← hg]; exact if_neg hm
   simp only [hm]
   try (simp)
   repeat (refine sR ?_; simp)
   refine sC ?_
   simp
   try (simp [r1, r2, r3, hgl, hw])
   repeat (refine sR ?_; simp [r1, r2, r3, hgl, hw])
   refine sE ?_
   exact ⟨i + 1, hlt, by omega, Weaks.mk (Nat.le_refl _) rfl (by simp [ToL, lk]) (by simp [BoxL, lk, hsc])⟩
 ·refine sX ?_
  simp only [AU, ↓reduceIte]
  have : i = images.length := by omega
  subst this
  try (simp)
  repeat (refine sR ?_; simp)
  refine sN ?_
  refine AL.loopT (stR2 n images keep nb box) (fun x => x.i ≤ n ∧ TK tok nt x.tok x.nt [x.own]) (fun x => n - x.i) ⟨0, .full, tok, nt⟩ ⟨Nat.zero_le _, (TK.start htok).full⟩ (Weaks.mk (Nat.le_refl _) rfl (by simp [ToL, lk, restX_zero]) (by simp [BoxL, lk])) ?_
  rintro ⟨i, own, tok', nt'⟩ S ⟨hi, htk⟩ hS
  simp only [stR2] at hS hi htk
  subst hS
  have hw := sW (i := i) (by omega)
  have hsc := restX_succ (goneI images keep) i
  have hlen := restX_len i (goneI images keep)
  have hgt := goneB_get n images keep hr images.length (Nat.le_refl _) i
  try (simp)
  repeat (refine sR ?_; simp)
  refine sC ?_
  simp
  refine ⟨fun hlt => ?_, fun hge => ?_⟩
  ·have hgt := hgt hlt
   have hgl' := goneB_len n images keep images.length
   have hgt : (goneB n images keep images.length)[i]'(by omega) = decide ((i : Int) ∈ goneI images keep) := by
    have h : (goneB n images keep images.length)[i]? = some ((goneB n images keep images.length)[i]'(by omega)) := List.getElem?_eq_getElem (by omega)
    rw [List.getD_eq_getElem?_getD, h] at hgt
    exact hgt
   try (simp [hlt, hgl'])
   repeat (refine sR ?_; simp [hlt, hgl'])
   rw [hgt]
   by_cases hm : (i : Int) ∈ goneI images keep
   ·rw [if_pos hm] at hsc
    simp only [hm]
    refine sC ?_
    simp
    try (simp [hw])
    repeat (refine sR ?_; simp [hw])
    refine sE ?_
    exact ⟨⟨i + 1, own, tok', nt'⟩, ⟨hlt, htk⟩, by simp only; omega, Weaks.mk htk.le rfl (by simp [ToL, lk, hsc]) (by simp [BoxL, lk])⟩
   ·rw [if_neg hm] at hsc
    simp only [hm]
    refine sC ?_
    simp
    try (simp)
    repeat (refine sR ?_; simp)
    refine ⟨⟨by omega, htk.live⟩, ?_⟩
    try (simp [hw])
    repeat (refine sR ?_; simp [hw])
    refine sE ?_
    exact ⟨⟨i + 1, _, _, _⟩, ⟨hlt, htk.app⟩, by simp only; omega, Weaks.mk htk.app.le rfl (by simp [ToL, lk, hsc]) (by simp [BoxL, lk])⟩
  ·refine sX ?_
   simp only [AU, ↓reduceIte]
   have : i = n := by omega
   subst this
   try (simp)
   repeat (refine sR ?_; simp)
   refine sT ?_
   try simp only [AU]
   refine ⟨by simp, sF hbox htok htk.old htk.le ?_⟩
   simp [packA, restX_rest]
theorem cident_c (l g : Gr) (keep m : Mo) (hm : m.Fit) (hk : keep.Fit) (hn : m.nodes.Nodup) (he : m.edges.Nodup) (tok : Tks) (nt : Nat) : DCall Tryz.prog 140 [glAv l g keep m] tok nt (.tup [.d (.sl 2 []), .d (.sl 2 [])]) tok nt := by
 intro box nb
 have i1 := cpairs_c m.nodes keep.nodes hm.n hk.n hn
 have i2 := cpairs_c m.edges keep.edges hm.e hk.e he
 refine sB Tryz.func140 Tryz.ntmps140 ?_
 intro hbox htok
 simp only at hbox htok
 apply AL.start
 try (simp)
 repeat (refine sR ?_; simp)
 refine Stop.of_d (i1 _ _) ?_
 simp
 try (simp)
 repeat (refine sR ?_; simp)
 refine Stop.of_d (i2 _ _) ?_
 simp
 try (simp)
 repeat (refine sR ?_; simp)
 refine sT ?_
 try simp only [AU]
 refine ⟨by simp, sF hbox htok (fun _ h => h) (Nat.le_refl _) ?_⟩
 simp [packA]
theorem ofP_c (l g : Gr) (keep m : Mo) (hl : l.Fit) (hg : g.Fit) (hm : m.Fit) (hk : keep.Fit) (he : Emb l g m) (hp : VP l keep) (tok : Tks) (nt : Nat) :
  DCall Tryz.prog 77 [l.av, g.av, keep.av, m.av] tok nt (.tup [(cmpR l g keep m).1.av, I (cmpR l g keep m).2]) tok nt := by
 intro box nb
 have h1 := cgiven_c l g keep m hl hg hm hk
 rw [he.v, hp.v] at h1
 have i1 := cident_c l g keep m hm hk he.n he.e
 have hd := cdangling_c l g keep m hg hm hk
 have hda := dangI_any g keep m
 have hgn := hg.n
 have hge := hg.e
 have v := he.vm
 have r1 := crest_c g.nodes.length m.nodes keep.nodes (by omega) hm.n hk.n v.n
 have r2 := crest_c g.edges.length m.edges keep.edges (by omega) hm.e hk.e v.e
 have w0 : IntKind.i64.wrap 0 = 0 := rfl
 refine sB Tryz.func77 Tryz.ntmps77 ?_
 intro hbox htok
 simp only at hbox htok
 apply AL.start
 try (simp)
 repeat (refine sR ?_; simp)
 refine Stop.of_d (h1 _ _) ?_
 simp
 try (simp)
 repeat (refine sR ?_; simp)
 refine sC ?_
 simp
 try (simp)
 repeat (refine sR ?_; simp)
 refine Stop.of_d (i1 _ _) ?_
 simp
 try (simp [w0])
 repeat (refine sR ?_; simp [w0])
 have hcd : cmpl g keep m = ⟨restI g.nodes.length m.nodes keep.nodes, restI g.edges.length m.edges keep.edges⟩ := rfl
 refine sC ?_
 simp
 try (simp)
 repeat (refine sR ?_; simp)
 refine Stop.of_d (hd _ _) ?_
 simp
 try (simp)
 repeat (refine sR ?_; simp)
 rw [hda]
 cases hx : dangL g keep m
 ·refine sC ?_
  simp
  try (simp)
  repeat (refine sR ?_; simp)
  refine Stop.of_d (r1 _ _) ?_
  simp
  try (simp)
  repeat (refine sR ?_; simp)
  refine Stop.of_d (r2 _ _) ?_
  simp
  try (simp)
  repeat (refine sR ?_; simp)
  refine sT ?_
  try simp only [AU]
  refine ⟨by simp, sF hbox htok (fun _ h => h) (Nat.le_refl _) ?_⟩
  simp [packA, cmpR, hx, hcd]
 ·refine sC ?_
  simp
  try (simp)
  repeat (refine sR ?_; simp)
  refine sT ?_
  try simp only [AU]
  refine ⟨by simp, sF hbox htok (fun _ h => h) (Nat.le_refl _) ?_⟩
  simp [packA, cmpR, hx, ints]
end Go.AM
namespace Go.AM
open Go
def shE (n : Nat) (e : E) : E := ⟨e.ty, e.fr + n, e.to + n⟩
def unG (b c : Gr) : Gr := ⟨b.nodes ++ c.nodes, b.edges ++ c.edges.map (shE b.nodes.length)⟩
def iotaF (n k : Nat) : List Int := (List.range k).map fun (j : Nat) => ((n + j : Nat) : Int)
theorem iotaF_len (n k : Nat) : (iotaF n k).length = k := by simp [iotaF]
theorem iotaF_get {n k j : Nat} (h : j < k) : (iotaF n k).getD j 0 = ((n + j : Nat) : Int) := by simp [iotaF, h]
def genX (n : Nat) (x : List Int) : List Int := iota n ++ (List.range x.length).map fun (j : Nat) => if x.getD j 0 < 0 then ((n + j : Nat) : Int) else x.getD j 0
theorem iota_len (n : Nat) : (iota n).length = n := by simp [iota]
theorem genX_len (n : Nat) (x : List Int) : (genX n x).length = n + x.length := by simp [genX, iota_len]
theorem genX_lo {n i : Nat} {x : List Int} (h : i < n) : (genX n x).getD i 0 = i := by
 unfold genX
 rw [getD_pre (by rw [iota_len]; exact h)]
 exact iota_getD h
theorem genX_hi {n j : Nat} {x : List Int} (h : j < x.length) : (genX n x).getD (n + j) 0 = if x.getD j 0 < 0 then ((n + j : Nat) : Int) else x.getD j 0 := by
 unfold genX
 rw [List.getD_eq_getElem?_getD, List.getElem?_append_right (by rw [iota_len]; omega), iota_len]
 simp [h, show n + j - n = j by omega]
def InX (n : Nat) (x : List Int) : Prop := ∀ j, j < x.length → x.getD j 0 < n
theorem genX_part {n : Nat} {x : List Int} (hx : InX n x) : PartL (genX n x) := by
 intro i hi
 have e : (genX n x)[i] = (genX n x).getD i 0 := by simp [List.getD_eq_getElem?_getD, hi]
 rw [e]
 rw [genX_len] at hi
 by_cases h : i < n
 ·rw [genX_lo h]
  exact ⟨by omega, by omega, by rw [Int.toNat_natCast, genX_lo h]⟩
 ·obtain ⟨j, rfl⟩ : ∃ j, i = n + j := ⟨i - n, by omega⟩
  have hj : j < x.length := by omega
  rw [genX_hi hj]
  split
  ·rename_i h1
   exact ⟨by omega, by omega, by rw [Int.toNat_natCast, genX_hi hj, if_pos h1]⟩
  ·rename_i h1
   have := hx j hj
   refine ⟨by omega, by omega, ?_⟩
   rw [genX_lo (by omega)]
   omega
theorem num_lo (n : Nat) (x : List Int) : ∀ i, i ≤ n → numN (genX n x) i = (iota i, (i : Int))
 | 0, _ => rfl
 | i + 1, h => by
  rw [numN, num_lo n x i (by omega), genX_lo (by omega), if_pos rfl]
  simp [iota, List.range_succ]
theorem rep_lo {α : Type} (f : Nat → α) (n : Nat) (x : List Int) : ∀ i, i ≤ n → repG f (genX n x) i = (List.range i).map f
 | 0, _ => rfl
 | i + 1, h => by
  rw [repG, rep_lo f n x i (by omega), genX_lo (by omega), if_pos rfl]
  simp [List.range_succ]
theorem num_hi {α : Type} [Inhabited α] (an bn : List α) (x : List Int) (hx : InX an.length x) : ∀ j, j ≤ x.length → numN (genX an.length x) (an.length + j) = (iota an.length ++ (glueG an bn x j).2, ((glueG an bn x j).1.length : Int))
 | 0, _ => by
  rw [Nat.add_zero, num_lo _ _ _ (Nat.le_refl _)]
  simp [glueG]
 | j + 1, h => by
  have ih := num_hi an bn x hx j (by omega)
  have hj : j < x.length := by omega
  rw [← Nat.add_assoc, numN, ih, genX_hi hj, glueG]
  by_cases h1 : x.getD j 0 < 0
  ·rw [if_pos h1, if_pos h1, if_pos rfl]
   simp
  ·have := hx j hj
   rw [if_neg h1, if_neg h1, if_neg (by omega)]
   have e : (iota an.length ++ (glueG an bn x j).2).getD (x.getD j 0).toNat 0 = x.getD j 0 := by
    rw [getD_pre (by rw [iota_len]; omega), iota_getD (by omega)]
    omega
   simp only [e, List.append_assoc]
theorem rep_hi {α : Type} [Inhabited α] (an bn : List α) (f : Nat → α) (x : List Int) (hx : InX an.length x) (h0 : ∀ i, i < an.length → f i = an.getD i default) (h1 : ∀ j, j < x.length → f (an.length + j) = bn.getD j default) :
  ∀ j, j ≤ x.length → repG f (genX an.length x) (an.length + j) = (glueG an bn x j).1
 | 0, _ => by
  rw [Nat.add_zero, rep_lo _ _ _ _ (Nat.le_refl _), glueG]
  refine List.ext_getElem (by simp) fun i g1 g2 => ?_
  simp only [List.getElem_map, List.getElem_range]
  rw [h0 i g2]
  simp [List.getD_eq_getElem?_getD, g2]
 | j + 1, h => by
  have ih := rep_hi an bn f x hx h0 h1 j (by omega)
  have hj : j < x.length := by omega
  rw [← Nat.add_assoc, repG, ih, genX_hi hj, glueG]
  by_cases h2 : x.getD j 0 < 0
  ·rw [if_pos h2, if_pos h2, if_pos rfl, h1 j hj]
  ·have := hx j hj
   rw [if_neg h2, if_neg h2, if_neg (by omega)]
theorem isM_in {ok : Nat → Nat → Bool} {na nb : Nat} {x : List Int} (h : isM ok na nb x) : InX na x := fun j hj => by
 rcases h.2 j (by rw [← h.1]; exact hj) with e | ⟨k, e, hk, _⟩
 ·omega
 ·omega
theorem quot_glue {b c : Gr} (hb : EOk b) (hc : EOk c) {x es : List Int} (h : isPair b c (x, es)) :
  quot (unG b c) (genX b.nodes.length x) (genX b.edges.length es) = ⟨(glue b c x es).g, ⟨iota b.nodes.length ++ (glue b c x es).r.nodes, iota b.edges.length ++ (glue b c x es).r.edges⟩⟩ := by
 obtain ⟨h1, h2⟩ := h
 simp only at h1 h2
 have hx := isM_in h1
 have he := isM_in h2
 have xl : x.length = c.nodes.length := h1.1
 have el : es.length = c.edges.length := h2.1
 have n1 := num_hi b.nodes c.nodes x hx x.length (Nat.le_refl _)
 have gn : glueG b.nodes c.nodes x x.length = glueN b.nodes c.nodes x x.length := (glueN_G _ _ _ _).symm
 rw [gn] at n1
 have er : (glue b c x es).r.nodes = (glueN b.nodes c.nodes x x.length).2 := rfl
 have n2 := num_hi b.edges (c.edges.map (mapE (glue b c x es).r.nodes)) es he es.length (Nat.le_refl _)
 have ge : glueG b.edges (c.edges.map (mapE (glue b c x es).r.nodes)) es es.length = glueE b.edges c.edges (glue b c x es).r.nodes es es.length := (glueE_G _ _ _ _ _ (by omega)).symm
 rw [ge] at n2
 unfold quot
 simp only [genX_len, n1, n2]
 have r1 : repN (unG b c).nodes (genX b.nodes.length x) (b.nodes.length + x.length) = (glue b c x es).g.nodes := by
  rw [repN_eq, rep_hi b.nodes c.nodes _ x hx (fun i hi => ?_) (fun j hj => ?_) _ (Nat.le_refl _), gn]
  ·rfl
  ·show (b.nodes ++ c.nodes).getD i 0 = _
   rw [getD_pre hi]; rfl
  ·show (b.nodes ++ c.nodes).getD (b.nodes.length + j) 0 = _
   rw [List.getD_eq_getElem?_getD, List.getElem?_append_right (by omega), show b.nodes.length + j - b.nodes.length = j by omega, List.getD_eq_getElem?_getD]
   rfl
 have hrl : (glue b c x es).r.nodes.length = c.nodes.length := by rw [er, (glueN_len _ _ _ _).2, xl]
 have q1 : ∀ v : Int, 0 ≤ v → v < b.nodes.length → (iota b.nodes.length ++ (glue b c x es).r.nodes).getD v.toNat 0 = v := fun v v0 v1 => by
  rw [getD_pre (by rw [iota_len]; omega), iota_getD (by omega)]; omega
 have q2 : ∀ v : Int, 0 ≤ v → (iota b.nodes.length ++ (glue b c x es).r.nodes).getD (v + b.nodes.length).toNat 0 = (glue b c x es).r.nodes.getD v.toNat 0 := fun v v0 => by
  rw [List.getD_eq_getElem?_getD, List.getElem?_append_right (by rw [iota_len]; omega), iota_len, show (v + b.nodes.length).toNat - b.nodes.length = v.toNat by omega, List.getD_eq_getElem?_getD]
 have r2 : repE (unG b c).edges (iota b.nodes.length ++ (glue b c x es).r.nodes) (genX b.edges.length es) (b.edges.length + es.length) = (glue b c x es).g.edges := by
  rw [repE_eq, rep_hi b.edges (c.edges.map (mapE (glue b c x es).r.nodes)) _ es he (fun i hi => ?_) (fun j hj => ?_) _ (Nat.le_refl _), ge]
  ·rfl
  ·have e1 : (unG b c).edges.getD i default = b.edges.getD i default := getD_pre hi
   obtain ⟨y1, y2, y3, y4⟩ := hb _ (getD_mem (d := default) hi)
   rw [edgeAt, e1, q1 _ y1 y2, q1 _ y3 y4]
  ·have hjc : j < c.edges.length := by omega
   have e1 : (unG b c).edges.getD (b.edges.length + j) default = shE b.nodes.length (c.edges.getD j default) := by
    show (b.edges ++ c.edges.map (shE b.nodes.length)).getD (b.edges.length + j) default = _
    rw [List.getD_eq_getElem?_getD, List.getElem?_append_right (by omega), show b.edges.length + j - b.edges.length = j by omega]
    simp [hjc]
   have e2 : (c.edges.map (mapE (glue b c x es).r.nodes)).getD j default = mapE (glue b c x es).r.nodes (c.edges.getD j default) := by simp [hjc]
   obtain ⟨y1, y2, y3, y4⟩ := hc _ (getD_mem (d := default) hjc)
   rw [edgeAt, e1, e2]
   simp only [shE, mapE]
   rw [q2 _ y1, q2 _ y3]
 rw [← er, r1, r2]
 rfl
theorem unG_ok {b c : Gr} (hb : EOk b) (hc : EOk c) : EOk (unG b c) := fun e he => by
 have hl : (unG b c).nodes.length = b.nodes.length + c.nodes.length := by simp [unG]
 rw [hl]
 rcases List.mem_append.1 he with he | he
 ·have := hb e he; omega
 ·obtain ⟨y, hy, rfl⟩ := List.mem_map.1 he
  have := hc y hy
  simp only [shE]
  omega
theorem byK_lo {n : Nat} {r : List Int} : byK (iota n) (iota n ++ r) (iota n).length = iota n := byK_ext rfl fun i hi => by
 rw [iota_len] at hi
 rw [iota_getD hi, Int.toNat_natCast, getD_pre (by rw [iota_len]; exact hi), iota_getD hi]
theorem byK_hi {n : Nat} {r : List Int} : byK (iotaF n r.length) (iota n ++ r) (iotaF n r.length).length = r := byK_ext (iotaF_len _ _) fun i hi => by
 rw [iotaF_len] at hi
 rw [iotaF_get hi, Int.toNat_natCast, List.getD_eq_getElem?_getD, List.getElem?_append_right (by rw [iota_len]; omega), iota_len, show n + i - n = i by omega, List.getD_eq_getElem?_getD]
end Go.AM
namespace Go.AM
open Go Go.Proofs
theorem to_mslk {p q : Nat → Prop} {fz : Option (Nat × Nat × List (List D))} {k off n sz : Nat} (h : p k) : To p q fz (.msl k off n sz) (.msl k off n sz) := .same (.msl h)
def stRt (L : List Int) (i : Nat) (v : Int) (nb : Nat) (box : Bxs) (tok : Tks) (nt : Nat) (a : Nat) : AState := ⟨tl [(4, I 0), (0, .d (ints L)), (1, I (if a = 0 then (i : Int) else v))], lb nb box [], tok, nt⟩
theorem root_c (L : List Int) (i : Nat) (hi : i < L.length) (hl : L.length ≤ 1000000) (hp : PartL L) (tok : Tks) (nt : Nat) : DCall Tryz.prog 289 [.d (ints L), I i] tok nt (I L[i]) tok nt := by
 intro box nb
 obtain ⟨p1, p2, p3⟩ := hp i hi
 have hg : L.getD i 0 = L[i] := by simp [hi]
 refine sB Tryz.func289 Tryz.ntmps289 ?_
 intro hbox htok
 simp only at hbox htok
 apply AL.start
 try (simp)
 repeat (refine sR ?_; simp)
 refine sN ?_
 have hli : L[i].toNat < L.length := by omega
 have hgl : L[L[i].toNat] = L[i] := by
  rw [List.getD_eq_getElem?_getD, List.getElem?_eq_getElem hli] at p3
  exact p3
 refine AL.loopT (stRt L i L[i] nb box tok nt) (fun a => a ≤ 1) (fun a => 1 - a) 0 (Nat.zero_le _) (Weaks.mk (Nat.le_refl _) rfl (by simp [ToL, lk]) trivial) ?_
 rintro a S ha hS
 simp only [stRt] at hS
 subst hS
 by_cases ea : a = 0
 ·subst ea
  simp only [↓reduceIte]
  try (simp [hi])
  repeat (refine sR ?_; simp [hi])
  by_cases he : L[i] = i
  ·have b0 : (L[i] != (i : Int)) = false := by simp [he]
   simp only [b0]
   refine sC ?_
   simp
   refine sX ?_
   simp only [AU, ↓reduceIte]
   try (simp)
   repeat (refine sR ?_; simp)
   refine sT ?_
   try simp only [AU]
   refine ⟨by simp, sF hbox htok (fun _ h => h) (Nat.le_refl _) ?_⟩
   simp [packA, he]
  ·have b0 : (L[i] != (i : Int)) = true := by simp [he]
   simp only [b0]
   refine sC ?_
   simp
   try (simp [hi])
   repeat (refine sR ?_; simp [hi])
   refine sE ?_
   exact ⟨1, Nat.le_refl _, by omega, Weaks.mk (Nat.le_refl _) rfl (by simp [ToL, lk]) trivial⟩
 ·simp only [ea, ↓reduceIte]
  try (simp [p1, hli, hgl])
  repeat (refine sR ?_; simp [p1, hli, hgl])
  refine ⟨by omega, ?_⟩
  refine sC ?_
  simp
  refine sX ?_
  simp only [AU, ↓reduceIte]
  try (simp)
  repeat (refine sR ?_; simp)
  refine sT ?_
  try simp only [AU]
  refine ⟨by simp, sF hbox htok (fun _ h => h) (Nat.le_refl _) ?_⟩
  simp [packA]
theorem rootM_c (L : List Int) (i : Nat) (hi : i < L.length) (hl : L.length ≤ 1000000) (hp : PartL L) (box : Bxs) (k : Nat) (hk : box k = some (rowsI L)) (tok : Tks) (nt : Nat) :
  RCall Tryz.prog 289 [.msl k 0 L.length 1, I i] box tok nt (I L[i]) tok nt := by
 refine RCall.lent rfl (root_c L i hi hl hp tok nt) ⟨?_, .same .d, trivial⟩
 have h : (rI L).length = L.length := by simp
 have h2 : box k = some (rowsD (rI L)) := by rw [hk, rowsI_eq]
 have := Bo.msl (sz := 1) h2
 rw [h] at this
 exact this
def QIs (L : List Int) (k : Nat) (box : Bxs) (nb : Nat) (tok : Tks) (nt : Nat) (r v : AV) (m : AMem) : Prop := v = r ∧ m = ⟨upd box k (some (rowsI L)), nb, tok, nt⟩
theorem outIs {L : List Int} {box : Bxs} {k base : Nat} {p q : Nat → Prop} : ∀ k' rows, k' < base → (upd box k (some (rowsI L))) k' = some rows → box k' = some rows ∨ ∀ r ∈ rows, ∀ x ∈ r, OkIn p q x := by
 intro k' rows hk' hr
 by_cases e : k' = k
 ·subst e
  rw [upd_same] at hr
  cases hr
  refine .inr fun r hr x hx => ?_
  simp only [rowsI, List.mem_map] at hr
  obtain ⟨n, _, rfl⟩ := hr
  simp only [List.mem_singleton] at hx
  subst hx
  exact .d
 ·rw [upd_other _ _ e] at hr
  exact .inl hr
def uniL (L : List Int) (a b : Nat) : List Int := L.set (max (L.getD a 0) (L.getD b 0)).toNat (min (L.getD a 0) (L.getD b 0))
theorem unite_c (L : List Int) (a b : Nat) (ha : a < L.length) (hb : b < L.length) (hl : L.length ≤ 1000000) (hp : PartL L) (box : Bxs) (k : Nat) (hk : box k = some (rowsI L)) (nb : Nat) (tok : Tks) (nt : Nat) :
  ACalls Tryz.prog 265 [.msl k 0 L.length 1, I a, I b] ⟨box, nb, tok, nt⟩ (QIs (uniL L a b) k box nb tok nt (.tup [])) := by
 have hrb := fun (box' : Bxs) hb' => rootM_c L b hb hl hp box' k hb'
 have hra := fun (box' : Bxs) hb' => rootM_c L a ha hl hp box' k hb'
 refine sB Tryz.func265 Tryz.ntmps265 ?_
 intro hbox htok
 simp only at hbox htok
 apply AL.start
 have kn := key_lt hbox hk
 try (simp)
 repeat (refine sR ?_; simp)
 refine Stop.of_r (hra _ (by simp only; rw [lb_out kn]; exact hk) _ _) ?_
 simp
 refine Stop.of_r (hrb _ (by simp only; rw [lb_out kn]; exact hk) _ _) ?_
 obtain ⟨a1, a2, a3⟩ := hp a ha
 obtain ⟨b1, b2, b3⟩ := hp b hb
 have ga : L.getD a 0 = L[a] := by simp [ha]
 have gb : L.getD b 0 = L[b] := by simp [hb]
 have hu : uniL L a b = L.set (max L[a] L[b]).toNat (min L[a] L[b]) := by rw [uniL, ga, gb]
 have m0 : 0 ≤ max L[a] L[b] := by omega
 have m1 : max L[a] L[b] < L.length := by omega
 have m2 : (max L[a] L[b]).toNat < L.length := by omega
 simp
 try (simp [m0, m1, m2, lb_out kn, hk, upd_lb_out kn])
 repeat (refine sR ?_; simp [m0, m1, m2, lb_out kn, hk, upd_lb_out kn])
 refine sE ?_
 refine ⟨by simp, (Fin.gen (vs := []) (av := .tup []) (tok' := tok) (nt' := nt) (by simp [resAs, resA]) (by rw [← upd_lb_out kn, hbox]) (Nat.le_refl _) (Nat.le_refl _) (fun t h => ⟨h, .inl rfl⟩) outIs (by simp [packA])).mono fun v M hq => ⟨hq.1, by rw [hq.2, hu]⟩⟩
def stFl (L : List Int) (k nb : Nat) (box : Bxs) (tok : Tks) (nt : Nat) (i : Nat) : AState :=
 ⟨tl [(6, I i), (5, I L.length), (2, .osl 0 [] .full), (0, .msl k 0 L.length 1)], lb nb box [], tok, nt⟩
theorem flat_c (L : List Int) (hl : L.length ≤ 1000000) (hp : PartL L) (box : Bxs) (k : Nat) (hk : box k = some (rowsI L)) (nb : Nat) (tok : Tks) (nt : Nat) :
  ACalls Tryz.prog 266 [.msl k 0 L.length 1] ⟨box, nb, tok, nt⟩ (QIs L k box nb tok nt (.msl k 0 L.length 1)) := by
 have hrt := fun (i : Nat) (hi : i < L.length) (box' : Bxs) hb' => rootM_c L i hi hl hp box' k hb'
 refine sB Tryz.func266 Tryz.ntmps266 ?_
 intro hbox htok
 simp only at hbox htok
 apply AL.start
 have kn := key_lt hbox hk
 try (simp)
 repeat (refine sR ?_; simp)
 refine sN ?_
 have hbx : upd box k (some (rowsI L)) = box := by
  funext j
  by_cases e : j = k
  ·subst e; rw [upd_same, hk]
  ·rw [upd_other _ _ e]
 refine AL.loopT (stFl L k nb box tok nt) (fun i => i ≤ L.length) (fun i => L.length - i) 0 (Nat.zero_le _) (Weaks.mk (Nat.le_refl _) rfl (by simp [ToL, lk]; exact to_mslk (by rw [lb_out kn, hk]; simp)) trivial) ?_
 rintro i S hi hS
 simp only [stFl] at hS
 subst hS
 have hw := sW (i := i) (by omega)
 try (simp)
 repeat (refine sR ?_; simp)
 refine sC ?_
 simp
 refine ⟨fun hlt => ?_, fun hge => ?_⟩
 ·try (simp)
  repeat (refine sR ?_; simp)
  refine Stop.of_r (hrt i hlt _ (by simp only; rw [lb_out kn]; exact hk) _ _) ?_
  have hs : upd box k (some (rowsI (L.set i L[i]))) = box := by rw [List.set_getElem_self, hbx]
  simp [lb_out kn, hk, upd_lb_out kn, hlt, hbx]
  try (simp [hw])
  repeat (refine sR ?_; simp [hw])
  refine sE ?_
  exact ⟨i + 1, hlt, by omega, Weaks.mk (Nat.le_refl _) rfl (by simp [ToL, lk]; exact to_mslk (by rw [lb_out kn, hk]; simp)) trivial⟩
 ·refine sX ?_
  simp only [AU, ↓reduceIte]
  have : i = L.length := by omega
  subst this
  try (simp)
  repeat (refine sR ?_; simp)
  refine sT ?_
  try simp only [AU]
  refine ⟨by simp, (Fin.gen (av := .msl k 0 L.length 1) (tok' := tok) (nt' := nt) (by simp [resAs, resA]; rfl) hbox (Nat.le_refl _) (Nat.le_refl _) (fun t h => ⟨h, .inl rfl⟩) (fun k rows _ h => .inl h) (by simp [packA]; exact to_mslk (by rw [lb_out kn, hk]; simp))).mono fun v M hq => ⟨hq.1, by rw [hq.2, hbx]⟩⟩
def stFn0 (n : Nat) (nb : Nat) (box : Bxs) (tok : Tks) (nt : Nat) (i : Nat) : AState := ⟨tl [(9, I i), (8, I n), (3, .msl (nb + 6) 0 n 1)], lb nb box [(6, rowsI (upto n i))], tok, nt⟩
theorem finestP_c (n : Nat) (hn : n ≤ 1000000) (tok : Tks) (nt : Nat) : DCall Tryz.prog 264 [I n] tok nt (.ex nt 1 (rI (iota n))) (upd tok nt true) (nt + 1) := by
 intro box nb
 refine sB Tryz.func264 Tryz.ntmps264 ?_
 intro hbox htok
 simp only at hbox htok
 apply AL.start
 try (simp)
 repeat (refine sR ?_; simp)
 refine ⟨by omega, ?_⟩
 try (simp)
 repeat (refine sR ?_; simp)
 refine sN ?_
 refine AL.loopT (stFn0 n nb box tok nt) (fun i => i ≤ n) (fun i => n - i) 0 (Nat.zero_le _) (Weaks.mk (Nat.le_refl _) rfl (by simp [ToL, lk]) (by simp [BoxL, lk])) ?_
 rintro i S hi hS
 simp only [stFn0] at hS
 subst hS
 have hw := sW (i := i) (by omega)
 refine sR ?_
 simp
 refine sC ?_
 simp
 refine ⟨fun hlt => ?_, fun hge => ?_⟩
 ·refine sR ?_
  simp
  refine sR ?_
  simp [hlt, hi]
  refine sR ?_
  simp [hw]
  refine sE ?_
  refine ⟨i + 1, hlt, by omega, Weaks.mk (Nat.le_refl _) rfl (by simp [ToL, lk]) (by simp [BoxL, lk, iota_set hlt])⟩
 ·refine sX ?_
  simp only [AU, ↓reduceIte]
  have : i = n := by omega
  subst this
  refine AL.weak (Weaks.mk (l' := [(3, .msl (nb + 6) 0 i 1)]) (loc' := [(6, rowsI (iota i))]) (Nat.le_refl _) rfl (by simp [ToL, lk]) (by simp [BoxL, lk])) ?_
  refine AL.trans (Trans.sealI (l' := [(3, .ex nt 1 (rI (iota i)))]) (loc := []) (loc' := []) 6 (iota i) 3 rfl (Nat.le_refl _) (by rw [iota_len]; rfl) rfl ⟨rfl, seTo_mslI (iota_len i).symm, trivial⟩ trivial) ?_
  refine sR ?_
  simp
  refine sT ?_
  try simp only [AU]
  refine ⟨by simp, Fin.gen (by simp [resAs, resA]; rfl) hbox (by omega) (Nat.le_refl _) (fun t ht => ⟨?_, .inl rfl⟩) (fun k rows _ h => .inl h) (by simp [packA])⟩
  by_cases e : t = nt
  ·subst e; exact upd_same _ _ _
  ·rw [upd_other _ _ e] at ht ⊢; exact ht
end Go.AM
namespace Go.AM
open Go Go.Proofs
def pickN (ns : List Int) (js : List Int) (i : Nat) : List Int := (js.take i).map fun j => ns.getD j.toNat 0
@[simp] theorem pickN_len (l h : List Int) (i : Nat) : (pickN l h i).length = min i h.length := by simp [pickN]
def pickE (es : List E) (ns js : List Int) (i : Nat) : List E := (js.take i).map fun j => ⟨(es.getD j.toNat default).ty, indexI ns (es.getD j.toNat default).fr, indexI ns (es.getD j.toNat default).to⟩
@[simp] theorem pickE_len (l : List E) (ns h : List Int) (i : Nat) : (pickE l ns h i).length = min i h.length := by simp [pickE]
end Go.AM
namespace Go.AM
open Go Go.Proofs
def inK (l : List Int) (k i : Nat) : Bool := decide ((k : Int) ∈ l.take i)
end Go.AM
namespace Go.AM
open Go Go.Proofs
def rkK (ns : List Int) (bit : Nat → Bool) : Nat → List Int
 | 0 => []
 | i + 1 => if bit i = true then rkK ns bit i ++ [((chN ns bit i).1.length : Int)] else rkK ns bit i ++ [0]
def rkR (ns : List Int) (bit : Nat → Bool) (n i : Nat) : List Int := rkK ns bit i ++ List.replicate (n - i) 0
theorem rkK_len (ns : List Int) (bit : Nat → Bool) : ∀ i, (rkK ns bit i).length = i
 | 0 => rfl
 | i + 1 => by
  simp only [rkK]
  split <;> simp [rkK_len ns bit i]
@[simp] theorem rkR_len (ns : List Int) (bit : Nat → Bool) {n i : Nat} (h : i ≤ n) : (rkR ns bit n i).length = n := by simp [rkR, rkK_len]; omega
end Go.AM
namespace Go.AM
open Go
end Go.AM
namespace Go.AM
open Go
end Go.AM
namespace Go.AM
open Go Go.Proofs
end Go.AM
namespace Go.AM
open Go
def sameAt (a b : List Int) (i k : Nat) : Bool := decide (a.getD i 0 = a.getD k 0) == decide (b.getD i 0 = b.getD k 0)
end Go.AM
namespace Go.AM
open Go Go.Proofs
def mrgK (l : List Int) (lo hi : Int) (i : Nat) : List Int := (l.take i).map fun k => if k = hi then lo else k
theorem mrgK_zero (l : List Int) (lo hi : Int) : mrgK l lo hi 0 = [] := by simp [mrgK]
@[simp] theorem mrgK_len (l : List Int) (lo hi : Int) (i : Nat) : (mrgK l lo hi i).length = min i l.length := by simp [mrgK]
theorem mrgK_succ (l : List Int) (lo hi : Int) {i : Nat} (h : i < l.length) : mrgK l lo hi (i + 1) = mrgK l lo hi i ++ [if l[i] = hi then lo else l[i]] := by simp only [mrgK, List.take_add_one, List.getElem?_eq_getElem h, Option.toList, List.map_append, List.map_cons, List.map_nil]
def st73 (l : List Int) (lo hi : Int) (nb : Nat) (box : Bxs) (x : Acc) : AState :=
 ⟨tl [(0, .d (ints l)), (7, I lo), (8, I hi), (9, .osl 1 (rI (mrgK l lo hi x.i)) x.own), (10, I x.i)], lb nb box [], x.tok, x.nt⟩
theorem merge73_c (l : List Int) (a b : Nat) (ha : a < l.length) (hb : b < l.length) (hl : l.length ≤ 80) (tok : Tks) (nt : Nat) : DCall Tryz.prog 237 [.d (ints l), I a, I b] tok nt (.d (ints (mrgK l (min l[a] l[b]) (max l[a] l[b]) l.length))) tok nt := by
 intro box nb
 refine sB Tryz.func237 Tryz.ntmps237 ?_
 intro hbox htok
 simp only at hbox htok
 apply AL.start
 refine sR ?_
 simp
 refine sR ?_
 simp [ha, hb]
 generalize min l[a] l[b] = lo
 generalize max l[a] l[b] = hg
 refine sR ?_
 simp
 refine sR ?_
 simp
 refine sN ?_
 refine AL.loopT (st73 l lo hg nb box) (fun x => x.i ≤ l.length ∧ TK tok nt x.tok x.nt [x.own]) (fun x => l.length - x.i) ⟨0, .full, tok, nt⟩ ⟨Nat.zero_le _, (TK.start htok).full⟩ (Weaks.mk (Nat.le_refl _) rfl (by simp [ToL, mrgK_zero]) trivial) ?_
 rintro ⟨i, own, tok', nt'⟩ S ⟨hi, htk⟩ hS
 simp only [st73] at hS hi htk
 subst hS
 have hw := sW (i := i) (by omega)
 refine sR ?_
 simp
 refine sC ?_
 simp
 refine ⟨fun hlt => ?_, fun hge => ?_⟩
 ·have hS := mrgK_succ l lo hg hlt
  refine sR ?_
  simp [hlt]
  refine sR ?_
  simp
  refine sC ?_
  simp
  refine ⟨fun he => ?_, fun hne => ?_⟩
  ·refine sR ?_
   simp
   refine sR ?_
   simp
   refine ⟨⟨by omega, htk.live⟩, ?_⟩
   refine sR ?_
   simp [hw]
   refine sE ?_
   refine ⟨⟨i + 1, _, _, _⟩, ⟨hlt, htk.app⟩, by simp; omega, Weaks.mk htk.app.le rfl (by simp [ToL, hS, he]) trivial⟩
  ·refine sR ?_
   simp
   refine ⟨⟨by omega, htk.live⟩, ?_⟩
   refine sR ?_
   simp [hw]
   refine sE ?_
   refine ⟨⟨i + 1, _, _, _⟩, ⟨hlt, htk.app⟩, by simp; omega, Weaks.mk htk.app.le rfl (by simp [ToL, hS, hne]) trivial⟩
 ·refine sX ?_
  simp only [AU, ↓reduceIte]
  have : i = l.length := by omega
  subst this
  refine sR ?_
  simp
  refine sT ?_
  try simp only [AU]
  refine ⟨by simp, sF hbox htok htk.old htk.le ?_⟩
  simp [packA, ]
def preK (l : List Int) (i : Nat) : List Int := l.take i
@[simp] theorem preK_len (l : List Int) (i : Nat) : (preK l i).length = min i l.length := by simp [preK]
end Go.AM
namespace Go.AM
open Go Go.Proofs
structure Mt (n1 n2 : Nat) (F G : List Int) : Prop where
 l : F.length = G.length
 f : F.Nodup
 g : G.Nodup
 rf : ∀ x ∈ F, 0 ≤ x ∧ x < n1
 rg : ∀ x ∈ G, 0 ≤ x ∧ x < n2
def gnK (n1 n2 : Nat) (F G : List Int) (i : Nat) : List Int := genX n1 (mtI (F.take i) (G.take i) n2)
theorem gnK_len (n1 n2 : Nat) (F G : List Int) (i : Nat) : (gnK n1 n2 F G i).length = n1 + n2 := by rw [gnK, genX_len, mtI_len]
theorem gnK_zero (n1 n2 : Nat) (F G : List Int) : gnK n1 n2 F G 0 = iota (n1 + n2) := by
 refine ext_getD (by rw [gnK_len, iota_len]) fun t ht => ?_
 rw [gnK_len] at ht
 rw [iota_getD ht, gnK]
 by_cases h : t < n1
 ·rw [genX_lo h]
 ·obtain ⟨j, rfl⟩ : ∃ j, t = n1 + j := ⟨t - n1, by omega⟩
  have hj : j < n2 := by omega
  rw [genX_hi (by rw [mtI_len]; exact hj)]
  rcases mtI_cases (F := F.take 0) (G := G.take 0) hj with ⟨e, _⟩ | ⟨q, hq, _⟩
  ·rw [e, if_pos (by omega)]
  ·simp at hq
theorem take_gd {l : List Int} {i q : Nat} (h : q < i) : (l.take i).getD q 0 = l.getD q 0 := by
 simp only [List.getD_eq_getElem?_getD, List.getElem?_take, h, ↓reduceIte]
theorem mtI_step {n1 n2 : Nat} {F G : List Int} (h : Mt n1 n2 F G) {i : Nat} (hi : i < F.length) {j : Nat} (hj : j < n2) :
  (mtI (F.take (i + 1)) (G.take (i + 1)) n2).getD j 0 = if (j : Int) = G.getD i 0 then F.getD i 0 else (mtI (F.take i) (G.take i) n2).getD j 0 := by
 have hgi : i < G.length := by rw [← h.l]; exact hi
 have inT : ∀ q k, q < k → q < G.length → G.getD q 0 ∈ G.take k := fun q k hq hl => by
  have := getD_mem (r := G.take k) (d := 0) (j := q) (by rw [List.length_take]; omega)
  rwa [take_gd hq] at this
 rcases mtI_cases (F := F.take (i + 1)) (G := G.take (i + 1)) hj with ⟨e, hn⟩ | ⟨q, hq, h2, h3⟩
 ·have hne : ¬ (j : Int) = G.getD i 0 := fun e => hn (by rw [e]; exact inT i (i + 1) (by omega) hgi)
  rw [if_neg hne, e]
  rcases mtI_cases (F := F.take i) (G := G.take i) hj with ⟨e', _⟩ | ⟨q, hq, h2, h3⟩
  ·exact e'.symm
  ·rw [List.length_take] at hq
   rw [take_gd (by omega)] at h2
   exact absurd (by rw [← h2]; exact inT q (i + 1) (by omega) (by omega)) hn
 ·rw [List.length_take] at hq
  rw [take_gd (by omega)] at h2
  rw [take_gd (by omega)] at h3
  rw [h3]
  by_cases e : q = i
  ·subst e; rw [if_pos h2.symm]
  ·have hne : ¬ (j : Int) = G.getD i 0 := fun e2 => e (getD_inj h.g (by omega) hgi (h2.trans e2))
   rw [if_neg hne]
   rcases mtI_cases (F := F.take i) (G := G.take i) hj with ⟨_, hn⟩ | ⟨q', hq', h2', h3'⟩
   ·exact absurd (by rw [← h2]; exact inT q i (by omega) (by omega)) hn
   ·rw [List.length_take] at hq'
    rw [take_gd (by omega)] at h2' h3'
    have := getD_inj h.g (show q' < G.length by omega) (by omega) (h2'.trans h2.symm)
    subst this
    exact h3'.symm
theorem gnK_in {n1 n2 : Nat} {F G : List Int} (h : Mt n1 n2 F G) (i : Nat) : InX n1 (mtI (F.take i) (G.take i) n2) := fun j hj => by
 rw [mtI_len] at hj
 rcases mtI_cases (F := F.take i) (G := G.take i) hj with ⟨e, _⟩ | ⟨q, hq, _, h3⟩
 ·omega
 ·rw [h3, List.length_take] at *
  have := h.l
  rw [take_gd (by omega)]
  have := h.rf _ (getD_mem (d := 0) (show q < F.length by omega))
  omega
theorem gnK_part {n1 n2 : Nat} {F G : List Int} (h : Mt n1 n2 F G) (i : Nat) : PartL (gnK n1 n2 F G i) := genX_part (gnK_in h i)
theorem gnK_step {n1 n2 : Nat} {F G : List Int} (h : Mt n1 n2 F G) {i : Nat} (hi : i < F.length) {t : Nat} (ht : t < n1 + n2) :
  (gnK n1 n2 F G (i + 1)).getD t 0 = if (t : Int) = n1 + G.getD i 0 then F.getD i 0 else (gnK n1 n2 F G i).getD t 0 := by
 have rg := h.rg _ (getD_mem (d := 0) (show i < G.length by rw [← h.l]; exact hi))
 have rf := h.rf _ (getD_mem (d := 0) hi)
 unfold gnK
 by_cases hl : t < n1
 ·rw [genX_lo hl, genX_lo hl, if_neg (by omega)]
 ·obtain ⟨j, rfl⟩ : ∃ j, t = n1 + j := ⟨t - n1, by omega⟩
  have hj : j < n2 := by omega
  rw [genX_hi (by rw [mtI_len]; exact hj), genX_hi (by rw [mtI_len]; exact hj), mtI_step h hi hj]
  by_cases e : (j : Int) = G.getD i 0
  ·rw [if_pos e, if_neg (show ¬ F.getD i 0 < 0 by omega), if_pos (show ((n1 + j : Nat) : Int) = n1 + G.getD i 0 by omega)]
  ·rw [if_neg e, if_neg (show ¬ ((n1 + j : Nat) : Int) = n1 + G.getD i 0 by omega)]
theorem gnK_a {n1 n2 : Nat} {F G : List Int} (h : Mt n1 n2 F G) {i : Nat} (hi : i < F.length) : (gnK n1 n2 F G i).getD (F.getD i 0).toNat 0 = F.getD i 0 := by
 have rf := h.rf _ (getD_mem (d := 0) hi)
 rw [gnK, genX_lo (by omega)]; omega
theorem gnK_b {n1 n2 : Nat} {F G : List Int} (h : Mt n1 n2 F G) {i : Nat} (hi : i < F.length) : (gnK n1 n2 F G i).getD (n1 + G.getD i 0).toNat 0 = n1 + G.getD i 0 := by
 have hgi : i < G.length := by rw [← h.l]; exact hi
 have rg := h.rg _ (getD_mem (d := 0) hgi)
 have e : (n1 + G.getD i 0).toNat = n1 + (G.getD i 0).toNat := by omega
 rw [e, gnK, genX_hi (by rw [mtI_len]; omega)]
 rcases mtI_cases (F := F.take i) (G := G.take i) (show (G.getD i 0).toNat < n2 by omega) with ⟨e', _⟩ | ⟨q, hq, h2, h3⟩
 ·rw [e', if_pos (by omega)]; omega
 ·rw [List.length_take] at hq
  rw [take_gd (by omega)] at h2
  have := getD_inj h.g (show q < G.length by omega) hgi (by omega)
  omega
theorem gnK_uni {n1 n2 : Nat} {F G : List Int} (h : Mt n1 n2 F G) {i : Nat} (hi : i < F.length) : uniL (gnK n1 n2 F G i) (F.getD i 0).toNat (n1 + G.getD i 0).toNat = gnK n1 n2 F G (i + 1) := by
 have rg := h.rg _ (getD_mem (d := 0) (show i < G.length by rw [← h.l]; exact hi))
 have rf := h.rf _ (getD_mem (d := 0) hi)
 rw [uniL, gnK_a h hi, gnK_b h hi, show max (F.getD i 0) (n1 + G.getD i 0) = n1 + G.getD i 0 by omega, show min (F.getD i 0) (n1 + G.getD i 0) = F.getD i 0 by omega]
 refine ext_getD (by rw [List.length_set, gnK_len, gnK_len]) fun t ht => ?_
 rw [List.length_set, gnK_len] at ht
 rw [gnK_step h hi ht]
 have hl := gnK_len n1 n2 F G i
 by_cases e : (t : Int) = n1 + G.getD i 0
 ·rw [if_pos e]
  have : (n1 + G.getD i 0).toNat = t := by omega
  rw [this, List.getD_eq_getElem?_getD, List.getElem?_set_self (by omega)]
  rfl
 ·rw [if_neg e, List.getD_eq_getElem?_getD, List.getElem?_set_ne (by omega), ← List.getD_eq_getElem?_getD]
theorem gnK_mrg {n1 n2 : Nat} {F G : List Int} (h : Mt n1 n2 F G) {i : Nat} (hi : i < F.length) : mrgK (gnK n1 n2 F G i) (F.getD i 0) (n1 + G.getD i 0) (n1 + n2) = gnK n1 n2 F G (i + 1) := by
 have hgi : i < G.length := by rw [← h.l]; exact hi
 have rg := h.rg _ (getD_mem (d := 0) hgi)
 have rf := h.rf _ (getD_mem (d := 0) hi)
 have hl := gnK_len n1 n2 F G i
 refine ext_getD (by rw [mrgK, List.length_map, List.length_take, gnK_len, gnK_len]; omega) fun t ht => ?_
 rw [mrgK, List.length_map, List.length_take, gnK_len] at ht
 have ht' : t < n1 + n2 := by omega
 rw [gnK_step h hi ht', mrgK, List.take_of_length_le (by omega)]
 have e0 : ((gnK n1 n2 F G i).map fun k => if k = n1 + G.getD i 0 then F.getD i 0 else k).getD t 0 = if (gnK n1 n2 F G i).getD t 0 = n1 + G.getD i 0 then F.getD i 0 else (gnK n1 n2 F G i).getD t 0 := by
  simp only [List.getD_eq_getElem?_getD, List.getElem?_map, List.getElem?_eq_getElem (show t < (gnK n1 n2 F G i).length by omega), Option.map_some, Option.getD_some]
 rw [e0]
 by_cases e : (t : Int) = n1 + G.getD i 0
 ·have hb := gnK_b h hi
  have : (n1 + G.getD i 0).toNat = t := by omega
  rw [this] at hb
  rw [if_pos e, if_pos hb]
 ·rw [if_neg e, if_neg]
  intro e2
  -- what lies at t is t, or lies below
  by_cases hlo : t < n1
  ·rw [gnK, genX_lo hlo] at e2; omega
  ·obtain ⟨j, rfl⟩ : ∃ j, t = n1 + j := ⟨t - n1, by omega⟩
   have hj : j < n2 := by omega
   have hin := gnK_in h i j (by rw [mtI_len]; exact hj)
   rw [gnK, genX_hi (by rw [mtI_len]; exact hj)] at e2
   split at e2 <;> omega
theorem gnK_all {n1 n2 : Nat} {F G : List Int} (h : F.length = G.length) : gnK n1 n2 F G F.length = genX n1 (mtI F G n2) := by
 rw [gnK, List.take_length, h, List.take_length]
abbrev prs (l : List (Int × Int)) : D := .sl 2 (l.map fun p => [D.raw (.int .i64 p.1), D.raw (.int .i64 p.2)])
def prK (n1 : Nat) (F G : List Int) (i : Nat) : List (Int × Int) := (List.range i).map fun (j : Nat) => (F.getD j 0, (n1 : Int) + G.getD j 0)
theorem prK_len (n1 : Nat) (F G : List Int) (i : Nat) : (prK n1 F G i).length = i := by simp [prK]
theorem prK_succ (n1 : Nat) (F G : List Int) (i : Nat) : prK n1 F G (i + 1) = prK n1 F G i ++ [(F.getD i 0, (n1 : Int) + G.getD i 0)] := by simp [prK, List.range_succ]
theorem prK_get {n1 : Nat} {F G : List Int} {i n : Nat} (h : i < n) : (prK n1 F G n)[i]'(by rw [prK_len]; exact h) = (F.getD i 0, (n1 : Int) + G.getD i 0) := by simp [prK]
def stGc (N : Int) (ps : List (Int × Int)) (nb : Nat) (box : Bxs) (tok : Tks) (nt : Nat) (i : Nat) : AState := ⟨tl [(6, I i), (5, I 0), (4, .osl 0 [] .full), (0, I N), (1, .d (prs ps))], lb nb box [], tok, nt⟩
def stGd (L : List Int) (ps : List (Int × Int)) (nb : Nat) (box : Bxs) (tok : Tks) (nt : Nat) (i : Nat) : AState := ⟨tl [(8, I i), (7, .d (ints L)), (5, I 0), (4, .osl 0 [] .full), (1, .d (prs ps))], lb nb box [], tok, nt⟩
structure PsOk (n1 n2 : Nat) (F G : List Int) (ps : List (Int × Int)) : Prop where
 len : ps.length = F.length
 few : F.length ≤ 80
 a : ∀ i (h : i < ps.length), ps[i].1 = F.getD i 0
 b : ∀ i (h : i < ps.length), ps[i].2 = (n1 : Int) + G.getD i 0
 r : ∀ i (h : i < ps.length), 0 ≤ ps[i].1 ∧ ps[i].1 < n1 ∧ n1 ≤ ps[i].2 ∧ ps[i].2 < ((n1 + n2 : Nat) : Int)
theorem psOk {n1 n2 : Nat} {F G : List Int} (h : Mt n1 n2 F G) (hn : n1 + n2 ≤ 80) : PsOk n1 n2 F G (prK n1 F G F.length) := by
 refine ⟨prK_len _ _ _ _, ?_, fun i hi => ?_, fun i hi => ?_, fun i hi => ?_⟩
 ·have := nodup_le F (iota n1) h.f fun x hx => by
   have := h.rf x hx
   simp only [iota, List.mem_map, List.mem_range]
   exact ⟨x.toNat, by omega, by omega⟩
  rw [iota_len] at this
  omega
 ·rw [prK_len] at hi; rw [prK_get hi]
 ·rw [prK_len] at hi; rw [prK_get hi]
 ·rw [prK_len] at hi
  rw [prK_get hi]
  have rg := h.rg _ (getD_mem (d := 0) (show i < G.length by rw [← h.l]; exact hi))
  have rf := h.rf _ (getD_mem (d := 0) hi)
  exact ⟨by omega, by omega, by simp only; omega, by simp only; omega⟩
theorem generate02_c (n1 n2 : Nat) (F G : List Int) (h : Mt n1 n2 F G) (hn : n1 + n2 ≤ 80) (tok : Tks) (nt : Nat) :
  DCall Tryz.prog 220 [I ((n1 + n2 : Nat) : Int), .d (prs (prK n1 F G F.length))] tok nt (.tup [.d (ints (genX n1 (mtI F G n2))), I 0]) tok nt := by
 intro box nb
 have hf := finest_c (n1 + n2) (by omega)
 rw [← gnK_zero n1 n2 F G] at hf
 have hk : ¬ (80 : Int) < ((n1 + n2 : Nat) : Int) := by omega
 have hk2 : ¬ ((n1 + n2 : Nat) : Int) < 0 := by omega
 have P := psOk h hn
 have hRf : genX n1 (mtI F G n2) = gnK n1 n2 F G F.length := (gnK_all h.l).symm
 generalize prK n1 F G F.length = ps at *
 have hNv : ((n1 + n2 : Nat) : Int) = (n1 : Int) + n2 := by omega
 have pl := P.len
 have pf := P.few
 rw [hRf]
 generalize hN : ((n1 + n2 : Nat) : Int) = N at *
 refine sB Tryz.func220 Tryz.ntmps220 ?_
 intro hbox htok
 simp only at hbox htok
 apply AL.start
 try (simp [hk, hk2])
 repeat (refine sR ?_; simp [hk, hk2])
 refine sC ?_
 simp
 try (simp [hk2])
 repeat (refine sR ?_; simp [hk2])
 refine sC ?_
 simp
 try (simp)
 repeat (refine sR ?_; simp)
 refine sN ?_
 refine AL.loopT (stGc N ps nb box tok nt) (fun i => i ≤ ps.length) (fun i => ps.length - i) 0 (Nat.zero_le _) (Weaks.mk (Nat.le_refl _) rfl (by simp [ToL, lk]) trivial) ?_
 rintro i S hi hS
 simp only [stGc] at hS
 subst hS
 have hw := sW (i := i) (by omega)
 try (simp)
 repeat (refine sR ?_; simp)
 refine sC ?_
 simp
 refine ⟨fun hlt => ?_, fun hge => ?_⟩
 ·obtain ⟨p1, p2, p3, p4⟩ := P.r i hlt
  have q1 : ¬ ps[i].1 < 0 := by omega
  have q2 : ¬ N ≤ ps[i].1 := by omega
  have q3 : ¬ ps[i].2 < 0 := by omega
  have q4 : ¬ N ≤ ps[i].2 := by omega
  try (simp [hlt, q1, q2, q3, q4])
  repeat (refine sR ?_; simp [hlt, q1, q2, q3, q4])
  refine sC ?_
  simp
  try (simp [hw])
  repeat (refine sR ?_; simp [hw])
  refine sE ?_
  exact ⟨i + 1, hlt, by omega, Weaks.mk (Nat.le_refl _) rfl (by simp [ToL, lk]) trivial⟩
 ·refine sX ?_
  simp only [AU, ↓reduceIte]
  try (simp)
  repeat (refine sR ?_; simp)
  refine Stop.of_d (hf _ _) ?_
  simp
  try (simp)
  repeat (refine sR ?_; simp)
  refine sN ?_
  refine AL.loopT (fun i => stGd (gnK n1 n2 F G i) ps nb box tok nt i) (fun i => i ≤ ps.length) (fun i => ps.length - i) 0 (Nat.zero_le _) (Weaks.mk (Nat.le_refl _) rfl (by simp [ToL, lk]) trivial) ?_
  rintro i S hi hS
  simp only [stGd] at hS
  subst hS
  have hw := sW (i := i) (by omega)
  try (simp)
  repeat (refine sR ?_; simp)
  refine sC ?_
  simp
  refine ⟨fun hlt => ?_, fun hge => ?_⟩
  ·obtain ⟨p1, p2, p3, p4⟩ := P.r i hlt
   have hiF : i < F.length := by omega
   have hln := gnK_len n1 n2 F G i
   have hm := merge73_c (gnK n1 n2 F G i) ps[i].1.toNat ps[i].2.toNat (by omega) (by omega) (by omega)
   have ga := gnK_a h hiF
   have gb := gnK_b h hiF
   rw [← P.a i hlt] at ga
   rw [← P.b i hlt] at gb
   have ga' : (gnK n1 n2 F G i)[ps[i].1.toNat]'(by omega) = ps[i].1 := by
    rw [List.getD_eq_getElem?_getD, List.getElem?_eq_getElem (by omega)] at ga; exact ga
   have gb' : (gnK n1 n2 F G i)[ps[i].2.toNat]'(by omega) = ps[i].2 := by
    rw [List.getD_eq_getElem?_getD, List.getElem?_eq_getElem (by omega)] at gb; exact gb
   rw [ga', gb', show min ps[i].1 ps[i].2 = ps[i].1 by omega, show max ps[i].1 ps[i].2 = ps[i].2 by omega, hln, show ((ps[i].1.toNat : Nat) : Int) = ps[i].1 by omega, show ((ps[i].2.toNat : Nat) : Int) = ps[i].2 by omega, P.a i hlt, P.b i hlt, gnK_mrg h hiF, ← P.a i hlt, ← P.b i hlt] at hm
   try (simp [hlt])
   repeat (refine sR ?_; simp [hlt])
   refine Stop.of_d (hm _ _) ?_
   simp
   try (simp [hw])
   repeat (refine sR ?_; simp [hw])
   refine sE ?_
   exact ⟨i + 1, hlt, by omega, Weaks.mk (Nat.le_refl _) rfl (by simp [ToL, lk]) trivial⟩
  ·refine sX ?_
   simp only [AU, ↓reduceIte]
   have : i = F.length := by omega
   subst this
   try (simp)
   repeat (refine sR ?_; simp)
   refine sT ?_
   try simp only [AU]
   refine ⟨by simp, sF hbox htok (fun _ h => h) (Nat.le_refl _) ?_⟩
   simp [packA]
def stGe (N : Int) (n1 n2 : Nat) (F G : List Int) (ps : List (Int × Int)) (nb : Nat) (box : Bxs) (tok : Tks) (nt : Nat) (i : Nat) : AState :=
 ⟨tl [(17, I i), (16, I ps.length), (15, .d (prs ps)), (6, .msl (nb + 6) 0 (n1 + n2) 1), (5, I 0), (4, .osl 0 [] .full), (0, I N)], lb nb box [(6, rowsI (gnK n1 n2 F G i))], tok, nt⟩
theorem generateP_c (n1 n2 : Nat) (F G : List Int) (h : Mt n1 n2 F G) (hn : n1 + n2 ≤ 80) (tok : Tks) (nt : Nat) :
  DCall Tryz.prog 241 [I ((n1 + n2 : Nat) : Int), .d (prs (prK n1 F G F.length))] tok nt (.tup [.d (ints (genX n1 (mtI F G n2))), I 0]) tok nt := by
 intro box nb
 have hf := finestP_c (n1 + n2) (by omega)
 rw [← gnK_zero n1 n2 F G] at hf
 have hk : ¬ (80 : Int) < ((n1 + n2 : Nat) : Int) := by omega
 have hk2 : ¬ ((n1 + n2 : Nat) : Int) < 0 := by omega
 have P := psOk h hn
 have hRf : genX n1 (mtI F G n2) = gnK n1 n2 F G F.length := (gnK_all h.l).symm
 generalize prK n1 F G F.length = ps at *
 have hNv : ((n1 + n2 : Nat) : Int) = (n1 : Int) + n2 := by omega
 have pl := P.len
 have pf := P.few
 rw [hRf]
 generalize hN : ((n1 + n2 : Nat) : Int) = N at *
 refine sB Tryz.func241 Tryz.ntmps241 ?_
 intro hbox htok
 simp only at hbox htok
 apply AL.start
 try (simp [hk, hk2])
 repeat (refine sR ?_; simp [hk, hk2])
 refine sC ?_
 simp
 try (simp [hk2])
 repeat (refine sR ?_; simp [hk2])
 refine sC ?_
 simp
 try (simp)
 repeat (refine sR ?_; simp)
 refine Stop.of_d (hf _ _) ?_
 simp
 try (simp)
 repeat (refine sR ?_; simp)
 refine sN ?_
 have hl0 := gnK_len n1 n2 F G 0
 refine AL.weak (Weaks.mk (l' := [(17, I 0), (16, I ps.length), (15, .d (prs ps)), (6, .ex nt 1 (rI (gnK n1 n2 F G 0))), (5, I 0), (4, .osl 0 [] .full), (0, I N)]) (loc' := []) (Nat.le_succ _) rfl (by simp [ToL]) (by simp [BoxL])) ?_
 refine AL.trans (Trans.thawI (l' := [(17, I 0), (16, I ps.length), (15, .d (prs ps)), (6, .msl (nb + 6) 0 (n1 + n2) 1), (5, I 0), (4, .osl 0 [] .full), (0, I N)]) (loc' := []) nt 6 (gnK n1 n2 F G 0) 6 rfl (by show 6 < 50; decide) rfl (upd_same _ _ _) rfl
  ⟨rfl, .same, rfl, .same, rfl, .same, rfl, thTo_exI hl0.symm, rfl, .same, rfl, .same, rfl, .same, trivial⟩ trivial) ?_
 have htt : ∀ t, tok t = true → upd (upd tok nt true) nt false t = true := fun t ht => by
  have := htok t ht
  rw [upd_other _ _ (by omega), upd_other _ _ (by omega)]; exact ht
 generalize upd (upd tok nt true) nt false = tok1 at *
 refine AL.loopT (stGe N n1 n2 F G ps nb box tok1 (nt + 1)) (fun i => i ≤ ps.length) (fun i => ps.length - i) 0 (Nat.zero_le _) (Weaks.mk (Nat.le_succ _) rfl (by simp [ToL, lk]) (by simp [BoxL, lk])) ?_
 rintro i S hi hS
 simp only [stGe] at hS
 subst hS
 have hw := sW (i := i) (by omega)
 have hln := gnK_len n1 n2 F G i
 have hpt := gnK_part h i
 try (simp)
 repeat (refine sR ?_; simp)
 refine sC ?_
 simp
 refine ⟨fun hlt => ?_, fun hge => ?_⟩
 ·obtain ⟨p1, p2, p3, p4⟩ := P.r i hlt
  have q1 : ¬ ps[i].1 < 0 := by omega
  have q2 : ¬ N ≤ ps[i].1 := by omega
  have q3 : ¬ ps[i].2 < 0 := by omega
  have q4 : ¬ N ≤ ps[i].2 := by omega
  have hiF : i < F.length := by omega
  have hu := unite_c (gnK n1 n2 F G i) ps[i].1.toNat ps[i].2.toNat (by omega) (by omega) (by omega) hpt
  have eu : uniL (gnK n1 n2 F G i) ps[i].1.toNat ps[i].2.toNat = gnK n1 n2 F G (i + 1) := by rw [P.a i hlt, P.b i hlt]; exact gnK_uni h hiF
  rw [eu, hln, show ((ps[i].1.toNat : Nat) : Int) = ps[i].1 by omega, show ((ps[i].2.toNat : Nat) : Int) = ps[i].2 by omega] at hu
  refine sR ?_
  simp [hlt]
  generalize ps[i] = y at *
  try (simp [q1, q2, q3, q4])
  repeat (refine sR ?_; simp [q1, q2, q3, q4])
  refine sC ?_
  simp
  try (simp)
  repeat (refine sR ?_; simp)
  refine Stop.of_a (hu _ (nb + 6) (by simp [lk]) _ _ _) ?_
  rintro v m' ⟨rfl, rfl⟩
  simp
  try (simp [hw])
  repeat (refine sR ?_; simp [hw])
  refine sE ?_
  exact ⟨i + 1, hlt, by omega, Weaks.mk (Nat.le_succ _) rfl (by simp [ToL, lk]) (by simp [BoxL, lk])⟩
 ·refine sX ?_
  simp only [AU, ↓reduceIte]
  have : i = F.length := by omega
  subst this
  have hfl := flat_c (gnK n1 n2 F G F.length) (by omega) hpt
  rw [hln] at hfl
  try (simp)
  repeat (refine sR ?_; simp)
  refine Stop.of_a (hfl _ (nb + 6) (by simp [lk]) _ _ _) ?_
  rintro v m' ⟨rfl, rfl⟩
  simp
  try (simp)
  repeat (refine sR ?_; simp)
  refine AL.weak (Weaks.frz (l' := [(4, .d (ints (gnK n1 n2 F G F.length))), (5, I 0)]) (loc' := []) 6 1 (rI (gnK n1 n2 F G F.length)) (Nat.le_succ _) rfl (by simp [lk, rowsI_eq]) (by simp [lk]) (by simp) (by simp [ToL, lk, hln]) (by simp [BoxL])) ?_
  refine sT ?_
  try simp only [AU]
  refine ⟨by simp, sF hbox htok htt (Nat.le_succ _) ?_⟩
  simp [packA, ]
end Go.AM
namespace Go.AM
open Go Go.Proofs
theorem iotaF_zero (n : Nat) : iotaF n 0 = [] := rfl
theorem iotaF_succ (n k : Nat) : iotaF n (k + 1) = iotaF n k ++ [((n + k : Nat) : Int)] := by simp [iotaF, List.range_succ]
theorem unG_fit {b c : Gr} (h : ¬ (40 < b.nodes.length + c.nodes.length ∨ 80 < b.edges.length + c.edges.length)) : (unG b c).Fit := ⟨by simp [unG]; omega, by simp [unG]; omega⟩
def unE (b c : Gr) (i : Nat) : List E := b.edges ++ (c.edges.take i).map (shE b.nodes.length)
theorem unE_len (b c : Gr) (i : Nat) : (unE b c i).length ≤ b.edges.length + i := by simp [unE]; omega
theorem unE_succ (b c : Gr) {i : Nat} (h : i < c.edges.length) : unE b c (i + 1) = unE b c i ++ [shE b.nodes.length c.edges[i]] := by simp only [unE, List.take_add_one, List.getElem?_eq_getElem h, Option.toList, List.map_append, List.map_cons, List.map_nil, List.append_assoc]
theorem iotaF_iota (n : Nat) : iotaF 0 n = iota n := by simp [iotaF, iota]
end Go.AM
namespace Go.AM
open Go Go.Proofs
theorem mt_n {a b c : Gr} {f g : Mo} (hf : Emb a b f) (hg : Emb a c g) : Mt b.nodes.length c.nodes.length f.nodes g.nodes := ⟨by rw [hf.vm.ln, hg.vm.ln], hf.n, hg.n, hf.vm.n, hg.vm.n⟩
theorem mt_e {a b c : Gr} {f g : Mo} (hf : Emb a b f) (hg : Emb a c g) : Mt b.edges.length c.edges.length f.edges g.edges := ⟨by rw [hf.vm.le, hg.vm.le], hf.e, hg.e, hf.vm.e, hg.vm.e⟩
def poBig (b c : Gr) : Prop := 40 < b.nodes.length + c.nodes.length ∨ 80 < b.edges.length + c.edges.length
instance (b c : Gr) : Decidable (poBig b c) := inferInstanceAs (Decidable (_ ∨ _))
def pushR (b c : Gr) (f g : Mo) : Ov × Int := if poBig b c then (⟨⟨[], []⟩, ⟨[], []⟩, ⟨[], []⟩⟩, 3) else (pushO b c f g, 0)
abbrev spanAv (a b c : Gr) (f g : Mo) : AV := .agg [.d (ints a.nodes), .d (AM.edges a.edges), .d (ints b.nodes), .d (AM.edges b.edges), .d (ints c.nodes), .d (AM.edges c.edges), .d (ints f.nodes), .d (ints f.edges), .d (ints g.nodes), .d (ints g.edges)]
theorem Emb.fit {a b : Gr} {m : Mo} (h : Emb a b m) : m.Fit ∧ a.Fit ∧ b.Fit := by
 have v := h.vm
 have h1 := (validG_types v.va).1
 have h2 := (validG_types v.vb).1
 have h3 := v.ln
 have h4 := v.le
 exact ⟨⟨by omega, by omega⟩, ⟨by omega, by omega⟩, ⟨by omega, by omega⟩⟩
theorem pushO_r {b c : Gr} {f g : Mo} (hp : isPair b c (mtI f.nodes g.nodes c.nodes.length, mtI f.edges g.edges c.edges.length)) : (pushO b c f g).r.nodes.length = c.nodes.length ∧ (pushO b c f g).r.edges.length = c.edges.length ∧ (pushO b c f g).l = idM b :=
 ⟨by rw [← mtI_len f.nodes g.nodes c.nodes.length]; exact (glueN_len _ _ _ _).2, by rw [← mtI_len f.edges g.edges c.edges.length]; exact (glueE_len _ _ _ _ _).2, rfl⟩
end Go.AM
namespace Go.Proofs
open Go.Shelf
def Tryz.layGrow_ren : Go.Shelf.Ren := ⟨fun | 4 => 263 | n => n, fun | 0 => 0 | 3 => 3 | 4 => 4 | 9 => 9 | 20 => 20 | 22 => 22 | 25 => 3 | n => n, fun | n => n⟩
theorem Tryz.layGrow : Go.Proofs.Lays8.n4 Tryz.prog Tryz.layGrow_ren := {
 mixed := by kernel_rfl
 f4 := ⟨Tryz.f263.name, by kernel_rfl, Tryz.func263.trans (congrArg some (by kernel_rfl))⟩
 t0 := Tryz.underlying0
 a0 := Tryz.isAgg0
 z0 := Tryz.sizeOf0
 v0 := Tryz.zeroValue0
 t3 := Tryz.underlying3
 a3 := Tryz.isAgg3
 z3 := Tryz.sizeOf3
 v3 := Tryz.zeroValue3
 t4 := Tryz.underlying4
 a4 := Tryz.isAgg4
 z4 := Tryz.sizeOf4
 v4 := Tryz.zeroValue4
 t9 := Tryz.underlying9
 a9 := Tryz.isAgg9
 z9 := Tryz.sizeOf9
 v9 := Tryz.zeroValue9
 t20 := Tryz.underlying20
 a20 := Tryz.isAgg20
 z20 := Tryz.sizeOf20
 v20 := Tryz.zeroValue20
 t22 := Tryz.underlying22
 a22 := Tryz.isAgg22
 z22 := Tryz.sizeOf22
 v22 := Tryz.zeroValue22
}
end Go.Proofs
namespace Go.AM
open Go Go.Proofs Go.RowKit Go.Lib
theorem infoInt : (Tryz.prog.info? 3).map (fun i => (i.zero, i.size, i.bytes)) = some (some (.int .i64 0), 1, 8) := by kernel_rfl
theorem rvd_nil {c : Addr → Option Value} {ps : Addr → Prop} {A : Option Addr} {cap : Nat} (h : cap ≤ maxLen) : RVd c ps (.sl 1 []) (.slice A 0 cap) :=
 .sl (es := []) (fun _ _ => default) (Nat.zero_le _) h (by simp) (by simp) (by simp) (by simp)
theorem grow_c (n : Nat) (hn : n ≤ 1000000) (tok : Tks) (nt : Nat) : DCall Tryz.prog 263 [.osl 0 [] .full, I n] tok nt (.osl 1 [] (.tok nt)) (upd tok nt true) (nt + 1) := by
 intro box nb
 refine ⟨Enters.mk Tryz.func263 rfl (by kernel_rfl), fun G w vals hm hr => ?_⟩
 obtain ⟨hlen, hrv⟩ := hr
 match vals, hlen with
 | [v, u], _ =>
  have h0 := hrv 0 (by simp) (by simp)
  have h1 := hrv 1 (by simp) (by simp)
  simp only [List.getElem_cons_zero, List.getElem_cons_succ] at h0 h1
  have hu : u = .int .i64 n := by cases h1 with | d h => cases h; rfl
  subst hu
  obtain ⟨A, rfl⟩ : ∃ A, v = .slice A 0 0 := by cases h0 with | osl h2 h3 => exact h3
  have hnt := hm.nt
  by_cases e : n = 0
  ·subst e
   refine (Any8.slices_Grow_room Tryz.layGrow A 0 0 0 w (Nat.le_refl _) (by omega) (by omega) (by omega)).mono ?_
   rintro e w' ⟨rfl, rfl⟩
   refine ⟨_, _, _, G.newtok none, rfl, ⟨rfl, rfl⟩, rfl, hm.newtok none (fun g h => by cases h), .osl (rvd_nil (by decide)) ⟨?_, fun x hx => ?_⟩, Le.newtok none, fun k hk => ⟨hk, rfl⟩⟩
   ·simp only [Gh.newtok]; rw [hnt]; exact Nat.lt_succ_self _
   ·simp only [Gh.newtok] at hx
    rw [show G.nt = nt from hnt, upd_same] at hx
    cases hx
    exact ⟨A, rfl⟩
  ·obtain ⟨i0, hi, hz0, hz1, hz2⟩ := info_parts infoInt
   have hcapge := grownCap_ge w (0 + n) 0 3
   have hcapm := grownCap_le_maxLen w (0 + n) 0 3 (by unfold maxLen; omega)
   refine (Any8.slices_Grow_grow Tryz.layGrow i0 (.int .i64 0) hi hz0 (by rw [hz1]; decide) A 0 0 n [] w (Nat.le_refl _) (by omega) (by rw [hz2]; omega) (by omega) (by simp) (fun _ => rfl) (fun a _ j v h => by simp at h)).mono ?_
   rintro e w' ⟨rfl, rfl⟩
   have hcap : grownCap w (0 + n) 0 (Tryz.layGrow_ren.t 25) = grownCap w (0 + n) 0 3 := rfl
   rw [hcap]
   generalize grownCap w (0 + n) 0 3 = cap at *
   have hms : (Builtin.zeroCells (Value.int .i64 0).cells (0 + n - 0)).size = n := by simp [size_zeroCells, Value.cells]
   have hmr : (Builtin.zeroCells (Value.int .i64 0).cells (cap - (0 + n))).size = cap - n := by simp [size_zeroCells, Value.cells]
   have hcs : ((([] : List Value).toArray ++ Builtin.zeroCells (Value.int .i64 0).cells (0 + n - 0)) ++ Builtin.zeroCells (Value.int .i64 0).cells (cap - (0 + n))).size = cap := by
    rw [Array.size_append, Array.size_append, hms, hmr]; simp; omega
   generalize ((([] : List Value).toArray ++ Builtin.zeroCells (Value.int .i64 0).cells (0 + n - 0)) ++ Builtin.zeroCells (Value.int .i64 0).cells (cap - (0 + n))) = cs at *
   have hmd := RelM.drew hm
   have hp := RelM.newpart hmd 0 cap (.cells cs (Tryz.layGrow_ren.t 25))
   have hle := Le.newpart hmd 0 cap (.cells cs (Tryz.layGrow_ren.t 25))
   have hsz : w.drew.heap.size = w.heap.size := rfl
   refine ⟨_, _, _, (G.setKind w.heap.size (.part 0 cap)).newtok (some w.heap.size), rfl, ⟨rfl, rfl⟩, rfl, hp.newtok (some w.heap.size) (fun g hg => ?_), .osl (rvd_nil hcapm) ⟨?_, fun x hx => ?_⟩, (Le.drew.trans hle).trans (Le.newtok _), fun k hk => ⟨hk, rfl⟩⟩
   ·cases hg
    refine ⟨fun t ht => ?_, 0, cs, _, .inl ?_, heap_alloc_new _ _⟩
    ·have := hm.tlt t w.heap.size ht
     omega
    ·rw [hcs]; simp [Gh.setKind, upd_same]
   ·simp only [Gh.newtok, Gh.setKind]; rw [hnt]; exact Nat.lt_succ_self _
   ·simp only [Gh.newtok, Gh.setKind] at hx
    rw [show G.nt = nt from hnt, upd_same] at hx
    cases hx
    exact ⟨cap, rfl, by simp [Gh.newtok, Gh.setKind, upd_same]⟩
end Go.AM
namespace Go.AM
open Go Go.Proofs
def flK (LL : List (List Int)) (i : Nat) : List Int := (LL.take i).flatten
theorem flK_zero (LL : List (List Int)) : flK LL 0 = [] := by simp [flK]
theorem flK_succ (LL : List (List Int)) {i : Nat} (h : i < LL.length) : flK LL (i + 1) = flK LL i ++ LL[i] := by
 simp only [flK, List.take_add_one, List.getElem?_eq_getElem h, Option.toList, List.flatten_append, List.flatten_cons, List.flatten_nil, List.append_nil]
theorem flK_le (LL : List (List Int)) (i : Nat) : (flK LL i).length ≤ LL.flatten.length := by
 have : LL.flatten = flK LL i ++ (LL.drop i).flatten := by rw [flK, ← List.flatten_append, List.take_append_drop]
 rw [this, List.length_append]; omega
def stC1 (LL : List (List Int)) (nb : Nat) (box : Bxs) (tok : Tks) (nt : Nat) (i : Nat) : AState :=
 ⟨tl [(11, I i), (10, I LL.length), (9, .d (lists LL)), (3, I (flK LL i).length), (0, .d (lists LL))], lb nb box [], tok, nt⟩
def stC2 (LL : List (List Int)) (nb : Nat) (box : Bxs) (x : Acc) : AState :=
 ⟨tl [(27, I x.i), (26, I LL.length), (25, .d (lists LL)), (6, .osl 1 (rI (flK LL x.i)) x.own)], lb nb box [], x.tok, x.nt⟩
theorem concat_c (LL : List (List Int)) (hl : LL.length ≤ 1000) (ht : LL.flatten.length ≤ 1000000) (tok : Tks) (nt : Nat) : DCall Tryz.prog 239 [.d (lists LL)] tok nt (.d (ints LL.flatten)) tok nt := by
 intro box nb
 have hfl : ∀ i, (flK LL i).length ≤ LL.flatten.length := flK_le LL
 have hall : flK LL LL.length = LL.flatten := by rw [flK, List.take_length]
 generalize LL.flatten = T at *
 have hg := grow_c T.length ht
 refine sB Tryz.func239 Tryz.ntmps239 ?_
 intro hbox htok
 simp only at hbox htok
 apply AL.start
 try (simp)
 repeat (refine sR ?_; simp)
 refine sN ?_
 refine AL.loopT (stC1 LL nb box tok nt) (fun i => i ≤ LL.length) (fun i => LL.length - i) 0 (Nat.zero_le _) (Weaks.mk (Nat.le_refl _) rfl (by simp [ToL, lk, flK_zero]) trivial) ?_
 rintro i S hi hS
 simp only [stC1] at hS
 subst hS
 have hw := sW (i := i) (by omega)
 try (simp)
 repeat (refine sR ?_; simp)
 refine sC ?_
 simp
 refine ⟨fun hlt => ?_, fun hge => ?_⟩
 ·have hs := flK_succ LL hlt
  have hle := hfl (i + 1)
  have hle0 := hfl i
  rw [hs, List.length_append] at hle
  have hw2 : IntKind.i64.wrap (↑(flK LL i).length + ↑LL[i].length) = ((flK LL (i + 1)).length : Int) := by rw [hs, List.length_append, wrap_in (by omega) (by omega)]; omega
  have hn : ¬ ((flK LL (i + 1)).length : Int) < 0 := by omega
  try (simp [hlt, hw2, hn])
  repeat (refine sR ?_; simp [hlt, hw2, hn])
  refine sC ?_
  simp
  try (simp [hw])
  repeat (refine sR ?_; simp [hw])
  refine sE ?_
  exact ⟨i + 1, hlt, by omega, Weaks.mk (Nat.le_refl _) rfl (by simp [ToL, lk]) trivial⟩
 ·refine sX ?_
  simp only [AU, ↓reduceIte]
  have : i = LL.length := by omega
  subst this
  rw [hall]
  try (simp)
  repeat (refine sR ?_; simp)
  refine Stop.of_d (hg _ _) ?_
  simp
  try (simp)
  repeat (refine sR ?_; simp)
  refine sN ?_
  have htk := (TK.start htok).full.app
  refine AL.loopT (stC2 LL nb box) (fun x => x.i ≤ LL.length ∧ TK tok nt x.tok x.nt [x.own]) (fun x => LL.length - x.i) ⟨0, _, _, _⟩ ⟨Nat.zero_le _, htk⟩ (Weaks.mk htk.le rfl (by simp [ToL, lk, flK_zero]) trivial) ?_
  rintro ⟨i, own, tok', nt'⟩ S ⟨hi, htk⟩ hS
  simp only [stC2] at hS hi htk
  subst hS
  have hw := sW (i := i) (by omega)
  try (simp)
  repeat (refine sR ?_; simp)
  refine sC ?_
  simp
  refine ⟨fun hlt => ?_, fun hge => ?_⟩
  ·have hs := flK_succ LL hlt
   have hle := hfl (i + 1)
   rw [hs, List.length_append] at hle
   try (simp [hlt])
   repeat (refine sR ?_; simp [hlt])
   refine ⟨⟨by omega, htk.live⟩, ?_⟩
   try (simp [hw])
   repeat (refine sR ?_; simp [hw])
   refine sE ?_
   exact ⟨⟨i + 1, _, _, _⟩, ⟨hlt, htk.app⟩, by simp only; omega, Weaks.mk htk.app.le rfl (by simp [ToL, lk, hs]) trivial⟩
  ·refine sX ?_
   simp only [AU, ↓reduceIte]
   have : i = LL.length := by omega
   subst this
   rw [hall]
   try (simp)
   repeat (refine sR ?_; simp)
   refine sT ?_
   try simp only [AU]
   refine ⟨by simp, sF hbox htok htk.old htk.le ?_⟩
   simp [packA, ]
theorem concat2_c (a b : List Int) (ht : a.length + b.length ≤ 1000000) (tok : Tks) (nt : Nat) : DCall Tryz.prog 239 [.d (lists [a, b])] tok nt (.d (ints (a ++ b))) tok nt := by
 have := concat_c [a, b] (by simp) (by simpa using ht) tok nt
 simpa using this
end Go.AM
