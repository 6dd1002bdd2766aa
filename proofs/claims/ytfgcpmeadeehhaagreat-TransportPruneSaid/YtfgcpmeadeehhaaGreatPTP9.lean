/-
 Parts of the proof, as merged from many texts: a machine over data, what the functions compute, plain laws.
-/
import Derived.Test.YtfgcpmeadeehhaaGreatPTP8
import Derived.Deep.AppendLies
set_option linter.unusedSimpArgs false
set_option linter.unusedVariables false
namespace Go.AM
open Go Go.Proofs
theorem yes_c (tok : Nat → Bool) (nt : Nat) : DCall Tryz.prog 59 [] tok nt (cdOf 1 []).av tok nt := by
 intro box nb
 refine sB Tryz.func59 Tryz.ntmps59 ?_
 intro hbox htok
 simp only at hbox htok
 apply AL.start
 try (simp)
 repeat (refine sR ?_; simp)
 refine sT ?_
 try simp only [AU]
 refine ⟨by simp, sF hbox htok (fun _ h => h) (Nat.le_refl _) ?_⟩
 simp [packA, cdOf, Cd.kind, Cd.kids, Cd.m, Cd.g, Cd.sl, Cd.vars, Cd.te, conds, ints, AM.edges, slots, tests]
theorem no_c (tok : Nat → Bool) (nt : Nat) : DCall Tryz.prog 132 [] tok nt noC.av tok nt := by
 intro box nb
 have h := yes_c
 refine sB Tryz.func132 Tryz.ntmps132 ?_
 intro hbox htok
 simp only at hbox htok
 apply AL.start
 try (simp)
 repeat (refine sR ?_; simp)
 refine Stop.of_d (h _ _) ?_
 simp
 try (simp)
 repeat (refine sR ?_; simp)
 refine sT ?_
 try simp only [AU]
 refine ⟨by simp, sF hbox htok (fun _ h => h) (Nat.le_refl _) ?_⟩
 simp [packA, noC, Cd.cells, Cd.rows, cdOf, Cd.kind, Cd.kids, Cd.m, Cd.g, Cd.sl, Cd.vars, Cd.te, conds, ints, AM.edges, slots, tests]
theorem tof_c (r : Ru) (tok : Nat → Bool) (nt : Nat) : DCall Tryz.prog 43 [r.av] tok nt (spAv r.sp) tok nt := by
 intro box nb
 refine sB Tryz.func43 Tryz.ntmps43 ?_
 intro hbox htok
 simp only at hbox htok
 apply AL.start
 try (simp)
 repeat (refine sR ?_; simp)
 refine sT ?_
 try simp only [AU]
 refine ⟨by simp, sF hbox htok (fun _ h => h) (Nat.le_refl _) ?_⟩
 simp [packA, Ru.sp]
def stAt (l images : List Int) (nb : Nat) (box : Nat → Option (List (List AV))) (x : Acc) : AState := ⟨tl [(11, I x.i), (10, I images.length), (9, .d (ints images)), (0, .d (ints l)), (5, .osl 1 (rI (mapK (indexI l) images x.i)) x.own)], lb nb box [], x.tok, x.nt⟩
theorem at_c (l images : List Int) (h1 : l.length ≤ 1000000) (h2 : images.length ≤ 1000000) (tok : Nat → Bool) (nt : Nat) : DCall Tryz.prog 216 [.d (ints l), .d (ints images)] tok nt (.d (ints (images.map (indexI l)))) tok nt := by
 rw [← mapK_all]
 intro box nb
 have hh := fun v => index_c l v h1
 refine sB Tryz.func216 Tryz.ntmps216 ?_
 intro hbox htok
 simp only at hbox htok
 apply AL.start
 try (simp)
 repeat (refine sR ?_; simp)
 refine sN ?_
 refine AL.loopT (stAt l images nb box) (fun x => x.i ≤ images.length ∧ TK tok nt x.tok x.nt [x.own]) (fun x => images.length - x.i) ⟨0, .full, tok, nt⟩ ⟨Nat.zero_le _, (TK.start htok).full⟩ (Weaks.mk (Nat.le_refl _) rfl (by simp [ToL, lk, mapK_zero]) trivial) ?_
 rintro ⟨i, own, tok', nt'⟩ S ⟨hi, htk⟩ hS
 simp only [stAt] at hS hi htk
 subst hS
 have hw := sW (i := i) (by omega)
 have hlen := mapK_len (indexI l) images i
 try (simp)
 repeat (refine sR ?_; simp)
 refine sC ?_
 simp
 refine ⟨fun hlt => ?_, fun hge => ?_⟩
 ·have hsc := mapK_succ (indexI l) images hlt
  try (simp [hlt])
  repeat (refine sR ?_; simp [hlt])
  refine Stop.of_d (hh _ _ _) ?_
  simp
  try (simp)
  repeat (refine sR ?_; simp)
  refine ⟨⟨by omega, htk.live⟩, ?_⟩
  try (simp [hw])
  repeat (refine sR ?_; simp [hw])
  refine sE ?_
  exact ⟨⟨i + 1, _, _, _⟩, ⟨hlt, htk.app⟩, by simp only; omega, Weaks.mk htk.app.le rfl (by simp [ToL, lk, hsc]) trivial⟩
 ·refine sX ?_
  simp only [AU, ↓reduceIte]
  have : i = images.length := by omega
  subst this
  try (simp)
  repeat (refine sR ?_; simp)
  refine sT ?_
  try simp only [AU]
  refine ⟨by simp, sF hbox htok htk.old htk.le ?_⟩
  simp [packA, ]
def stPk (l which : List Int) (nb : Nat) (box : Nat → Option (List (List AV))) (x : Acc) : AState := ⟨tl [(11, I x.i), (10, I which.length), (9, .d (ints which)), (0, .d (ints l)), (5, .osl 1 (rI (byK which l x.i)) x.own)], lb nb box [], x.tok, x.nt⟩
theorem picked_c (l which : List Int) (h2 : which.length ≤ 1000000) (hr : ∀ x ∈ which, 0 ≤ x ∧ x < l.length) (tok : Nat → Bool) (nt : Nat) : DCall Tryz.prog 217 [.d (ints l), .d (ints which)] tok nt (.d (ints (byK which l which.length))) tok nt := by
 intro box nb
 refine sB Tryz.func217 Tryz.ntmps217 ?_
 intro hbox htok
 simp only at hbox htok
 apply AL.start
 try (simp)
 repeat (refine sR ?_; simp)
 refine sN ?_
 refine AL.loopT (stPk l which nb box) (fun x => x.i ≤ which.length ∧ TK tok nt x.tok x.nt [x.own]) (fun x => which.length - x.i) ⟨0, .full, tok, nt⟩ ⟨Nat.zero_le _, (TK.start htok).full⟩ (Weaks.mk (Nat.le_refl _) rfl (by simp [ToL, lk, byK_zero]) trivial) ?_
 rintro ⟨i, own, tok', nt'⟩ S ⟨hi, htk⟩ hS
 simp only [stPk] at hS hi htk
 subst hS
 have hw := sW (i := i) (by omega)
 try (simp)
 repeat (refine sR ?_; simp)
 refine sC ?_
 simp
 refine ⟨fun hlt => ?_, fun hge => ?_⟩
 ·obtain ⟨x0, x1⟩ := hr _ (List.getElem_mem hlt)
  have x2 : which[i].toNat < l.length := by omega
  try (simp [hlt, x0, x1, x2])
  repeat (refine sR ?_; simp [hlt, x0, x1, x2])
  refine ⟨⟨by omega, htk.live⟩, ?_⟩
  try (simp [hw])
  repeat (refine sR ?_; simp [hw])
  refine sE ?_
  exact ⟨⟨i + 1, _, _, _⟩, ⟨hlt, htk.app⟩, by simp only; omega, Weaks.mk htk.app.le rfl (by simp [ToL, lk, byK_succ which l hlt, x2]) trivial⟩
 ·refine sX ?_
  simp only [AU, ↓reduceIte]
  have : i = which.length := by omega
  subst this
  try (simp)
  repeat (refine sR ?_; simp)
  refine sT ?_
  try simp only [AU]
  refine ⟨by simp, sF hbox htok htk.old htk.le ?_⟩
  simp [packA, ]
def stBk (part into keep : List Int) (nb : Nat) (box : Nat → Option (List (List AV))) (x : Acc) : AState := ⟨tl [(13, I x.i), (12, I part.length), (11, .d (ints part)), (1, .d (ints into)), (2, .d (ints keep)), (7, .osl 1 (rI (byK (part.map (indexI into)) keep x.i)) x.own)], lb nb box [], x.tok, x.nt⟩
theorem backwards_c (part into keep : List Int) (h1 : part.length ≤ 1000000) (h2 : into.length ≤ 1000000) (hs : ∀ x ∈ part, x ∈ into) (hk : into.length ≤ keep.length) (tok : Nat → Bool) (nt : Nat) :
  DCall Tryz.prog 127 [.d (ints part), .d (ints into), .d (ints keep)] tok nt (.d (ints (byK (part.map (indexI into)) keep (part.map (indexI into)).length))) tok nt := by
 intro box nb
 have hh := fun v => index_c into v h2
 refine sB Tryz.func127 Tryz.ntmps127 ?_
 intro hbox htok
 simp only at hbox htok
 apply AL.start
 try (simp)
 repeat (refine sR ?_; simp)
 refine sN ?_
 refine AL.loopT (stBk part into keep nb box) (fun x => x.i ≤ part.length ∧ TK tok nt x.tok x.nt [x.own]) (fun x => part.length - x.i) ⟨0, .full, tok, nt⟩ ⟨Nat.zero_le _, (TK.start htok).full⟩ (Weaks.mk (Nat.le_refl _) rfl (by simp [ToL, lk, byK_zero]) trivial) ?_
 rintro ⟨i, own, tok', nt'⟩ S ⟨hi, htk⟩ hS
 simp only [stBk] at hS hi htk
 subst hS
 have hw := sW (i := i) (by omega)
 try (simp)
 repeat (refine sR ?_; simp)
 refine sC ?_
 simp
 refine ⟨fun hlt => ?_, fun hge => ?_⟩
 ·obtain ⟨x0, x1⟩ := mem_indexI hs i hlt
  have x2 : (indexI into part[i]).toNat < keep.length := by omega
  have x3 : indexI into part[i] < keep.length := by omega
  have hsc := byK_succ (part.map (indexI into)) keep (i := i) (by simpa using hlt)
  rw [List.getElem_map] at hsc
  try (simp [hlt])
  repeat (refine sR ?_; simp [hlt])
  refine Stop.of_d (hh _ _ _) ?_
  simp
  try (simp [x0, x2, x3])
  repeat (refine sR ?_; simp [x0, x2, x3])
  refine ⟨⟨by omega, htk.live⟩, ?_⟩
  try (simp [hw])
  repeat (refine sR ?_; simp [hw])
  refine sE ?_
  exact ⟨⟨i + 1, _, _, _⟩, ⟨hlt, htk.app⟩, by simp only; omega, Weaks.mk htk.app.le rfl (by simp [ToL, lk, hsc, x2]) trivial⟩
 ·refine sX ?_
  simp only [AU, ↓reduceIte]
  have : i = part.length := by omega
  subst this
  try (simp)
  repeat (refine sR ?_; simp)
  refine sT ?_
  try simp only [AU]
  refine ⟨by simp, sF hbox htok htk.old htk.le ?_⟩
  simp [packA, ]
def stSt (r : Ru) (nb : Nat) (box : Nat → Option (List (List AV))) (tok : Nat → Bool) (nt : Nat) (i : Nat) : AState :=
 ⟨tl [(72, I i), (71, I 2), (70, .osl 5 [[ints r.lg.nodes, AM.edges r.lg.edges, slots r.lsl, .raw (.int .i64 r.lv), tests r.lte], [ints r.rg.nodes, AM.edges r.rg.edges, slots r.rsl, .raw (.int .i64 r.rv), tests r.rte]] .full), (1, .ptr (nb + 1) 0 0)], lb nb box [(1, [r.row])], tok, nt⟩
theorem structural_c (r : Ru) (hr : r.Fit) (tok : Nat → Bool) (nt : Nat) : DCall Tryz.prog 41 [r.av] tok nt (I (strR r)) tok nt := by
 intro box nb
 have h1 := graphValid_c r.lg hr.lg
 have h2 := graphValid_c r.rg hr.rg
 have h3 := validP_c r.lg r.k hr.lg hr.k
 have h4 := fun h => extractP_c r.lg r.k hr.lg hr.k h
 have h5 := fun h => valid51_c (exG r.lg r.k) r.rg r.i h hr.rg
 have h6 := fun h => injective56_c (exG r.lg r.k) r.rg r.i h hr.rg hr.i
 refine sB Tryz.func41 Tryz.ntmps41 ?_
 intro hbox htok
 simp only at hbox htok
 apply AL.start
 try (simp)
 repeat (refine sR ?_; simp)
 refine Stop.of_d (h1 _ _) ?_
 simp
 try (simp)
 repeat (refine sR ?_; simp)
 by_cases e1 : validG r.lg = 0
 ·simp only [e1]
  refine sC ?_
  simp
  try (simp)
  repeat (refine sR ?_; simp)
  refine Stop.of_d (h2 _ _) ?_
  simp
  try (simp)
  repeat (refine sR ?_; simp)
  by_cases e2 : validG r.rg = 0
  ·simp only [e2]
   refine sC ?_
   simp
   try (simp)
   repeat (refine sR ?_; simp)
   refine Stop.of_d (h3 _ _) ?_
   simp
   try (simp)
   repeat (refine sR ?_; simp)
   by_cases e3 : validP r.lg r.k = 0
   ·simp only [e3]
    refine sC ?_
    simp
    try (simp)
    repeat (refine sR ?_; simp)
    have hp := VP.of e3
    have hx := hp.emb.fit.2.1
    refine Stop.of_d (h4 hp _ _) ?_
    simp
    try (simp)
    repeat (refine sR ?_; simp)
    refine sC ?_
    simp
    try (simp)
    repeat (refine sR ?_; simp)
    refine Stop.of_d (h5 hx _ _) ?_
    simp
    try (simp)
    repeat (refine sR ?_; simp)
    by_cases e4 : validM (exG r.lg r.k) r.rg r.i = 0
    ·simp only [e4]
     refine sC ?_
     simp
     try (simp)
     repeat (refine sR ?_; simp)
     refine Stop.of_d (h6 hx _ _) ?_
     simp
     try (simp)
     repeat (refine sR ?_; simp)
     cases e5 : injM (exG r.lg r.k) r.rg r.i
     ·refine sC ?_
      simp
      try (simp)
      repeat (refine sR ?_; simp)
      refine sT ?_
      try simp only [AU]
      refine ⟨by simp, sF hbox htok (fun _ h => h) (Nat.le_refl _) ?_⟩
      simp [packA, strR, e1, e2, e3, e4, e5]
     ·refine sC ?_
      simp
      try (simp)
      repeat (refine sR ?_; simp)
      have hls := hr.ls
      have hlt := hr.lt
      have hrs := hr.rs
      have hrt := hr.rt
      rw [bigN_eq] at hls hlt hrs hrt
      have w1 : IntKind.i64.wrap ((r.lsl.length : Int) + r.lte.length) = ((r.lsl.length + r.lte.length : Nat) : Int) := by rw [wrap_in (by omega) (by omega)]; omega
      have w2 : IntKind.i64.wrap ((r.rsl.length : Int) + r.rte.length) = ((r.rsl.length + r.rte.length : Nat) : Int) := by rw [wrap_in (by omega) (by omega)]; omega
      refine ⟨rfl, ?_⟩
      try (simp)
      repeat (refine sR ?_; simp)
      refine sN ?_
      refine AL.loopT (stSt r nb box tok nt) (fun i => i ≤ 2 ∧ (1 ≤ i → r.plainL) ∧ (2 ≤ i → r.plainR)) (fun i => 2 - i) 0 ⟨by omega, by omega, by omega⟩ (Weaks.mk (Nat.le_refl _) rfl (by simp [ToL, lk]) (by simp [BoxL, lk])) ?_
      rintro i S ⟨hi, hpl, hpr⟩ hS
      simp only [stSt] at hS
      subst hS
      obtain rfl | rfl | rfl : i = 0 ∨ i = 1 ∨ i = 2 := by omega
      ·have hw : IntKind.i64.wrap 1 = 1 := rfl
       try (simp)
       repeat (refine sR ?_; simp)
       refine sC ?_
       simp
       by_cases s1 : (0 : Int) < (r.lsl.length : Int) + r.lte.length
       ·have hne : ¬ r.plainL := fun h => by have := h.1; omega
        try (simp [w1, s1])
        repeat (refine sR ?_; simp [w1, s1])
        refine sC ?_
        simp
        try (simp)
        repeat (refine sR ?_; simp)
        refine sT ?_
        try simp only [AU]
        refine ⟨by simp, sF hbox htok (fun _ h => h) (Nat.le_refl _) ?_⟩
        simp [packA, strR, e1, e2, e3, e4, e5, hne]
       ·by_cases s2 : r.lv = 0
        ·have hyes : r.plainL := ⟨by omega, s2⟩
         have b2 : (r.lv != 0) = false := by simp [s2]
         try (simp [w1, s1, b2])
         repeat (refine sR ?_; simp [w1, s1, b2])
         refine sC ?_
         simp
         try (simp [hw])
         repeat (refine sR ?_; simp [hw])
         refine sE ?_
         exact ⟨1, ⟨by omega, fun _ => hyes, by omega⟩, by omega, Weaks.mk (Nat.le_refl _) rfl (by simp [ToL, lk]) (by simp [BoxL, lk])⟩
        ·have hne : ¬ r.plainL := fun h => s2 h.2
         have b2 : (r.lv != 0) = true := by simp [s2]
         try (simp [w1, s1, b2])
         repeat (refine sR ?_; simp [w1, s1, b2])
         refine sC ?_
         simp
         try (simp)
         repeat (refine sR ?_; simp)
         refine sT ?_
         try simp only [AU]
         refine ⟨by simp, sF hbox htok (fun _ h => h) (Nat.le_refl _) ?_⟩
         simp [packA, strR, e1, e2, e3, e4, e5, hne]
      ·have hw : IntKind.i64.wrap 2 = 2 := rfl
       have hl := hpl (by omega)
       try (simp)
       repeat (refine sR ?_; simp)
       refine sC ?_
       simp
       by_cases s1 : (0 : Int) < (r.rsl.length : Int) + r.rte.length
       ·have hne : ¬ r.plainR := fun h => by have := h.1; omega
        try (simp [w2, s1])
        repeat (refine sR ?_; simp [w2, s1])
        refine sC ?_
        simp
        try (simp)
        repeat (refine sR ?_; simp)
        refine sT ?_
        try simp only [AU]
        refine ⟨by simp, sF hbox htok (fun _ h => h) (Nat.le_refl _) ?_⟩
        simp [packA, strR, e1, e2, e3, e4, e5, hne]
       ·by_cases s2 : r.rv = 0
        ·have hyes : r.plainR := ⟨by omega, s2⟩
         have b2 : (r.rv != 0) = false := by simp [s2]
         try (simp [w2, s1, b2])
         repeat (refine sR ?_; simp [w2, s1, b2])
         refine sC ?_
         simp
         try (simp [hw])
         repeat (refine sR ?_; simp [hw])
         refine sE ?_
         exact ⟨2, ⟨by omega, fun _ => hl, fun _ => hyes⟩, by omega, Weaks.mk (Nat.le_refl _) rfl (by simp [ToL, lk]) (by simp [BoxL, lk])⟩
        ·have hne : ¬ r.plainR := fun h => s2 h.2
         have b2 : (r.rv != 0) = true := by simp [s2]
         try (simp [w2, s1, b2])
         repeat (refine sR ?_; simp [w2, s1, b2])
         refine sC ?_
         simp
         try (simp)
         repeat (refine sR ?_; simp)
         refine sT ?_
         try simp only [AU]
         refine ⟨by simp, sF hbox htok (fun _ h => h) (Nat.le_refl _) ?_⟩
         simp [packA, strR, e1, e2, e3, e4, e5, hne]
      ·have hl := hpl (by omega)
       have hr2 := hpr (by omega)
       try (simp)
       repeat (refine sR ?_; simp)
       refine sC ?_
       simp
       refine sX ?_
       simp only [AU, ↓reduceIte]
       try (simp)
       repeat (refine sR ?_; simp)
       cases hin : r.inj
       ·refine sC ?_
        simp
        try (simp)
        repeat (refine sR ?_; simp)
        refine sT ?_
        try simp only [AU]
        refine ⟨by simp, sF hbox htok (fun _ h => h) (Nat.le_refl _) ?_⟩
        simp [packA, strR, e1, e2, e3, e4, e5, hl, hr2, hin]
       ·refine sC ?_
        simp
        try (simp)
        repeat (refine sR ?_; simp)
        refine sT ?_
        try simp only [AU]
        refine ⟨by simp, sF hbox htok (fun _ h => h) (Nat.le_refl _) ?_⟩
        simp [packA, strR, e1, e2, e3, e4, e5, hl, hr2, hin]
    ·have b4 : (validM (exG r.lg r.k) r.rg r.i != 0) = true := by simp [e4]
     simp only [b4]
     refine sC ?_
     simp
     try (simp)
     repeat (refine sR ?_; simp)
     refine sT ?_
     try simp only [AU]
     refine ⟨by simp, sF hbox htok (fun _ h => h) (Nat.le_refl _) ?_⟩
     simp [packA, strR, e1, e2, e3, e4]
   ·have b3 : (validP r.lg r.k != 0) = true := by simp [e3]
    simp only [b3]
    refine sC ?_
    simp
    try (simp)
    repeat (refine sR ?_; simp)
    refine sT ?_
    try simp only [AU]
    refine ⟨by simp, sF hbox htok (fun _ h => h) (Nat.le_refl _) ?_⟩
    simp [packA, strR, e1, e2, e3]
  ·have b2 : (validG r.rg != 0) = true := by simp [e2]
   simp only [b2]
   refine sC ?_
   simp
   try (simp)
   repeat (refine sR ?_; simp)
   refine sT ?_
   try simp only [AU]
   refine ⟨by simp, sF hbox htok (fun _ h => h) (Nat.le_refl _) ?_⟩
   simp [packA, strR, e1, e2]
 ·have b1 : (validG r.lg != 0) = true := by simp [e1]
  simp only [b1]
  refine sC ?_
  simp
  try (simp)
  repeat (refine sR ?_; simp)
  refine sT ?_
  try simp only [AU]
  refine ⟨by simp, sF hbox htok (fun _ h => h) (Nat.le_refl _) ?_⟩
  simp [packA, strR, e1]
end Go.AM
namespace Go.AM
open Go Go.Proofs
theorem sortI_asc {l : List Int} {n : Nat} (hn : l.Nodup) (hr : ∀ x ∈ l, 0 ≤ x ∧ x < n) : sortI l = ascL l n := by
 have hp : (sortI l).Perm l := List.mergeSort_perm _ _
 have hs : (sortI l).Pairwise fun a b => (decide (a ≤ b)) = true := List.pairwise_mergeSort (fun a b c h1 h2 => by simp only [decide_eq_true_eq] at *; omega) (fun a b => by simp only [Bool.or_eq_true, decide_eq_true_eq]; omega) l
 have hd : (sortI l).Nodup := hp.nodup_iff.2 hn
 refine pw_ext (List.Pairwise.imp₂ (fun a b h1 h2 => ?_) hs hd) (ascL_pw _ _) fun x => ?_
 ·simp only [decide_eq_true_eq] at h1
  have : a ≠ b := h2
  omega
 ·rw [hp.mem_iff, ascL_mem]
  exact ⟨fun h => ⟨h, hr x h⟩, fun h => h.1⟩
theorem imgP_sort {a y : Gr} {q : Mo} (hq : Emb a y q) : (imgP y q) = ⟨sortI q.nodes, sortI q.edges⟩ := by
 have v := hq.vm
 rw [imgP, sortI_asc hq.n v.n, sortI_asc hq.e v.e]
theorem SpOk.fit {s : Sp} (h : SpOk s) : s.l.Fit ∧ s.r.Fit ∧ s.k.Fit ∧ s.i.Fit := ⟨h.k.emb.fit.2.2, h.i.fit.2.2, h.k.emb.fit.1, h.i.fit.1⟩
set_option maxRecDepth 100000 in
theorem exists_c (c x : Cd) (hkx : c.kids = [x]) (k5 : c.kind = 5) (s : Sp) (hs : SpOk s) (hm : Emb s.r c.g c.m)
  (ih : s.dng c.m c.g = false → ¬ s.big c.m c.g → ∀ (tok : Nat → Bool) (nt : Nat), DCall Tryz.prog 93 [spAv (s.inn c.m c.g), x.av] tok nt (.tup [(x.lft (s.inn c.m c.g)).1.av, I (x.lft (s.inn c.m c.g)).2]) tok nt) (tok : Nat → Bool) (nt : Nat) :
  DCall Tryz.prog 157 [spAv s, c.av] tok nt (.tup [(c.lft s).1.av, I (c.lft s).2]) tok nt := by
 intro box nb
 obtain ⟨fl, fr, fk, fi⟩ := hs.fit
 obtain ⟨fm, _, fg⟩ := hm.fit
 have s1 := sorted34_c s.i.nodes fi.n
 have s2 := sorted34_c s.i.edges fi.e
 have hi := imgP_vp hs.i
 have hC := ofP_c s.r c.g (imgP s.r s.i) c.m fr fg fm hi.emb.fit.1 hm hi
 have hL : c.lft s = lftStep 5 c.m c.g s (fun s => kidsE (fun x => Cd.lft x s) [x]) (fun s => kidsE (fun x => Cd.lft x s) [x]) := by rw [c.lft_eq, k5, hkx]
 have eI := imgP_sort hs.i
 rw [eI] at hC
 refine sB Tryz.func157 Tryz.ntmps157 ?_
 intro hbox htok
 simp only at hbox htok
 apply AL.start
 try (simp)
 repeat (refine sR ?_; simp)
 refine Stop.of_d (s1 _ _) ?_
 simp
 try (simp)
 repeat (refine sR ?_; simp)
 refine Stop.of_d (s2 _ _) ?_
 simp
 try (simp)
 repeat (refine sR ?_; simp)
 refine Stop.of_d (hC _ _) ?_
 simp
 rw [← eI]
 by_cases hd : s.dng c.m c.g = true
 ·have e : cmpR s.r c.g (imgP s.r s.i) c.m = (⟨[], []⟩, 14) := if_pos hd
  rw [e, show c.lft s = (noC, 0) by rw [hL, lftStep, if_neg (by simp), if_pos hd]]
  have hn := no_c
  try (simp)
  repeat (refine sR ?_; simp)
  refine sC ?_
  simp
  try (simp)
  repeat (refine sR ?_; simp)
  refine Stop.of_d (hn _ _) ?_
  simp
  try (simp)
  repeat (refine sR ?_; simp)
  refine sT ?_
  try simp only [AU]
  refine ⟨by simp, sF hbox htok (fun _ h => h) (Nat.le_refl _) ?_⟩
  simp [packA]
 ·have hd' : s.dng c.m c.g = false := by simpa using hd
  have e : cmpR s.r c.g (imgP s.r s.i) c.m = (s.z c.m c.g, 0) := if_neg hd
  rw [e]
  have ih := ih hd'
  have vz := Sp.z_vp hs hm hd'
  have hgo := Sp.go_emb hs hm hd'
  have hsub := Sp.go_sub hs hm
  have x1 := extractP_c c.g (s.z c.m c.g) fg vz.emb.fit.1 vz
  have x2 := extractP_c s.l s.k fl fk hs.k
  have vi := hs.i.vm
  have vm := hm.vm
  have p1 := picked_c c.m.nodes s.i.nodes fi.n (by rw [vm.ln]; exact vi.n)
  have p2 := picked_c c.m.edges s.i.edges fi.e (by rw [vm.le]; exact vi.e)
  have a1 := at_c (s.z c.m c.g).nodes (byK s.i.nodes c.m.nodes s.i.nodes.length) vz.emb.fit.1.n (by rw [byK_all]; exact fi.n)
  have a2 := at_c (s.z c.m c.g).edges (byK s.i.edges c.m.edges s.i.edges.length) vz.emb.fit.1.e (by rw [byK_all]; exact fi.e)
  have po := pushP_c (exG s.l s.k) s.l (s.rest c.m c.g) s.k (s.go c.m c.g) hs.k.emb hgo
  have ego : s.go c.m c.g = ⟨(byK s.i.nodes c.m.nodes s.i.nodes.length).map (indexI (s.z c.m c.g).nodes), (byK s.i.edges c.m.edges s.i.edges.length).map (indexI (s.z c.m c.g).edges)⟩ := rfl
  obtain ⟨P, hP⟩ : ∃ P, pushR s.l (s.rest c.m c.g) s.k (s.go c.m c.g) = P := ⟨_, rfl⟩
  rw [hP, ego] at po
  have erest : exG c.g (s.z c.m c.g) = s.rest c.m c.g := rfl
  rw [erest] at x1
  try (simp)
  repeat (refine sR ?_; simp)
  refine sC ?_
  simp
  try (simp)
  repeat (refine sR ?_; simp)
  refine Stop.of_d (x1 _ _) ?_
  simp
  try (simp)
  repeat (refine sR ?_; simp)
  refine sC ?_
  simp
  try (simp)
  repeat (refine sR ?_; simp)
  refine Stop.of_d (x2 _ _) ?_
  simp
  try (simp)
  repeat (refine sR ?_; simp)
  refine sC ?_
  simp
  try (simp)
  repeat (refine sR ?_; simp)
  refine Stop.of_d (p1 _ _) ?_
  simp
  try (simp)
  repeat (refine sR ?_; simp)
  refine Stop.of_d (a1 _ _) ?_
  simp
  try (simp)
  repeat (refine sR ?_; simp)
  refine Stop.of_d (p2 _ _) ?_
  simp
  try (simp)
  repeat (refine sR ?_; simp)
  refine Stop.of_d (a2 _ _) ?_
  simp
  try (simp)
  repeat (refine sR ?_; simp)
  refine Stop.of_d (po _ _) ?_
  simp
  by_cases hb : s.big c.m c.g
  ·have e : P = (⟨⟨[], []⟩, ⟨[], []⟩, ⟨[], []⟩⟩, 3) := by rw [← hP]; exact if_pos hb
   rw [e, show c.lft s = (cdOf 0 [], 3) by rw [hL, lftStep, if_neg (by simp), if_neg (by simp [hd']), if_pos hb]]
   try (simp)
   repeat (refine sR ?_; simp)
   refine sC ?_
   simp
   try (simp)
   repeat (refine sR ?_; simp)
   refine sT ?_
   try simp only [AU]
   refine ⟨by simp, sF hbox htok (fun _ h => h) (Nat.le_refl _) ?_⟩
   simp [packA, cdOf, Cd.kind, Cd.kids, Cd.m, Cd.g, Cd.sl, Cd.vars, Cd.te, conds, ints, AM.edges, slots, tests]
  ·have e : P = (s.po c.m c.g, 0) := by rw [← hP]; exact if_neg hb
   rw [e]
   have ih := ih hb
   obtain ⟨p1, p2, p3⟩ := Sp.po_emb hs hm hd' hb
   have v3 := p3.vm
   have f3 := p3.fit
   have s1 := sorted34_c (s.po c.m c.g).r.nodes f3.1.n
   have s2 := sorted34_c (s.po c.m c.g).r.edges f3.1.e
   have eJ := imgP_sort p3
   have hJ := imgP_vp p3
   have fJ := hJ.emb.fit.1
   have sJ := imgP_sub (y := (s.po c.m c.g).g) (q := (s.po c.m c.g).r)
   rw [eJ] at fJ sJ
   have b1 := backwards_c (sortI (s.po c.m c.g).r.nodes) (s.po c.m c.g).r.nodes (s.z c.m c.g).nodes fJ.n f3.1.n sJ.1 (by rw [v3.ln]; simp [Sp.rest, exG])
   have b2 := backwards_c (sortI (s.po c.m c.g).r.edges) (s.po c.m c.g).r.edges (s.z c.m c.g).edges fJ.e f3.1.e sJ.2 (by rw [v3.le]; simp [Sp.rest, exG])
   have eN : s.inn c.m c.g = ⟨(s.po c.m c.g).g, c.g, imgP (s.po c.m c.g).g (s.po c.m c.g).r, thenM (liftM (s.po c.m c.g).r (imgP (s.po c.m c.g).g (s.po c.m c.g).r)) (s.z c.m c.g)⟩ := rfl
   rw [eJ] at eN
   obtain ⟨R, hR⟩ : ∃ R, x.lft (s.inn c.m c.g) = R := ⟨_, rfl⟩
   rw [hR] at ih
   rw [eN] at ih
   simp only [thenM, liftM, List.length_map] at ih
   try (simp)
   repeat (refine sR ?_; simp)
   refine sC ?_
   simp
   try (simp)
   repeat (refine sR ?_; simp)
   refine Stop.of_d (s1 _ _) ?_
   simp
   try (simp)
   repeat (refine sR ?_; simp)
   refine Stop.of_d (s2 _ _) ?_
   simp
   try (simp)
   repeat (refine sR ?_; simp)
   refine Stop.of_d (b1 _ _) ?_
   simp
   try (simp)
   repeat (refine sR ?_; simp)
   refine Stop.of_d (b2 _ _) ?_
   simp
   try (simp [hkx, Cd.cells_eq])
   repeat (refine sR ?_; simp [hkx, Cd.cells_eq])
   refine Stop.of_d (ih _ _) ?_
   simp
   try (simp)
   repeat (refine sR ?_; simp)
   by_cases h0 : R.2 = 0
   ·rw [show c.lft s = (.mk 5 [R.1] (s.po c.m c.g).l (s.po c.m c.g).g [] 0 [], 0) by rw [hL, lftStep, if_neg (by simp), if_neg (by simp [hd']), if_neg hb]; have hk : kidsE (fun x => Cd.lft x (s.inn c.m c.g)) [x] = ([R.1], 0) := by { unfold kidsE; rw [hR, if_neg (by simp [h0])]; exact if_neg (by simp [kidsE]) }; rw [hk]; exact if_neg (by simp)]
    have hav : (Cd.mk 5 [R.1] (s.po c.m c.g).l (s.po c.m c.g).g [] 0 []).av = .agg [I 5, .d (.sl 9 [R.1.cells]), .d (ints (s.po c.m c.g).l.nodes), .d (ints (s.po c.m c.g).l.edges), .d (ints (s.po c.m c.g).g.nodes), .d (AM.edges (s.po c.m c.g).g.edges), .d (.sl 4 []), I 0, .d (.sl 5 [])] := rfl
    rw [R.1.cells_eq] at hav
    rw [hav]
    simp only [h0]
    refine sC ?_
    simp
    try (simp)
    repeat (refine sR ?_; simp)
    refine sT ?_
    try simp only [AU]
    refine ⟨by simp, sF hbox htok (fun _ h => h) (Nat.le_refl _) ?_⟩
    simp [packA]
   ·rw [show c.lft s = (cdOf 0 [], R.2) by rw [hL, lftStep, if_neg (by simp), if_neg (by simp [hd']), if_neg hb]; have hk : kidsE (fun x => Cd.lft x (s.inn c.m c.g)) [x] = ([], R.2) := by { unfold kidsE; rw [hR]; exact if_pos h0 }; rw [hk]; exact if_pos h0]
    have b0 : (R.2 != 0) = true := by simp [h0]
    simp only [b0]
    refine sC ?_
    simp
    try (simp)
    repeat (refine sR ?_; simp)
    refine sT ?_
    try simp only [AU]
    refine ⟨by simp, sF hbox htok (fun _ h => h) (Nat.le_refl _) ?_⟩
    simp [packA, cdOf, Cd.kind, Cd.kids, Cd.m, Cd.g, Cd.sl, Cd.vars, Cd.te, conds, ints, AM.edges, slots, tests]
end Go.AM
namespace Go.AM
open Go Go.Proofs
def stLk (c : Cd) (s : Sp) (nb : Nat) (box : Nat → Option (List (List AV))) (x : Acc) : AState :=
 ⟨tl [(25, I x.i), (24, I c.kids.length), (23, .d (conds c.kids)), (6, .ptr (nb + 6) 0 0), (4, .ptr (nb + 4) 0 0), (2, .ptr (nb + 2) 0 0)],
  lb nb box [(6, [[I c.kind, .osl 9 (((c.kids.take x.i).map fun k => (k.lft s).1).map Cd.cells) x.own, nilS, nilS, nilS, nilS, nilS, z0i, nilS]]), (4, [[z0i, nilS, nilS, nilS, nilS, nilS, nilS, z0i, nilS]]),
   (2, [[.d (ints s.l.nodes), .d (AM.edges s.l.edges), .d (ints s.r.nodes), .d (AM.edges s.r.edges), .d (ints s.k.nodes), .d (ints s.k.edges), .d (ints s.i.nodes), .d (ints s.i.edges)]])], x.tok, x.nt⟩
set_option maxRecDepth 100000 in
theorem left_c : ∀ (n : Nat) (c : Cd), SizeOf.sizeOf c < n → c.Fit → ∀ s, SpOk s → c.ovr s.r = 0 → ∀ (tok : Nat → Bool) (nt : Nat), DCall Tryz.prog 93 [spAv s, c.av] tok nt (.tup [(c.lft s).1.av, I (c.lft s).2]) tok nt
 | 0, c, hn, _, _, _, _, _, _ => absurd hn (Nat.not_lt_zero _)
 | n + 1, c, hn, hf, s, hs, hv, tok, nt => by
  have ih := fun x (hx : x ∈ c.kids) => left_c n x (by have := Cd.kid_lt hx; omega) (hf.kid x hx)
  intro box nb
  have hkl := hf.kids
  obtain ⟨h0, h1, h2⟩ := Cd.ovr_zero hv
  by_cases k5 : c.kind = 5
  ·obtain ⟨hm, x, hkx⟩ := ovr_ex hv k5
   have hi : c.inn s.r = c.g := if_pos k5
   rw [hi] at h2
   have he := exists_c c x hkx k5 s hs hm (fun hd hb => ih x (by rw [hkx]; simp) _ (Sp.inn_ok hs hm hd hb) (h2 x (by rw [hkx]; simp)))
   have b5 : (c.kind == 5) = true := by simp [k5]
   refine sB Tryz.func93 Tryz.ntmps93 ?_
   intro hbox htok
   simp only at hbox htok
   apply AL.start
   try (simp [b5])
   repeat (refine sR ?_; simp [b5])
   refine sC ?_
   simp
   try (simp)
   repeat (refine sR ?_; simp)
   refine Stop.of_d (he _ _) ?_
   simp
   try (simp)
   repeat (refine sR ?_; simp)
   refine sT ?_
   try simp only [AU]
   refine ⟨by simp, sF hbox htok (fun _ h => h) (Nat.le_refl _) ?_⟩
   simp [packA]
  ·have hi : c.inn s.r = s.r := if_neg k5
   rw [hi] at h2
   have b5 : (c.kind == 5) = false := by simp [k5]
   have hL : c.lft s = (if (kidsE (fun x => Cd.lft x s) c.kids).2 ≠ 0 then (cdOf 0 [], (kidsE (fun x => Cd.lft x s) c.kids).2) else (cdOf c.kind (kidsE (fun x => Cd.lft x s) c.kids).1, 0)) := by rw [c.lft_eq]; exact if_pos k5
   refine sB Tryz.func93 Tryz.ntmps93 ?_
   intro hbox htok
   simp only at hbox htok
   apply AL.start
   try (simp [b5])
   repeat (refine sR ?_; simp [b5])
   refine sC ?_
   simp
   try (simp)
   repeat (refine sR ?_; simp)
   refine sN ?_
   have hkl2 := hkl
   rw [kidN_eq] at hkl2
   refine AL.loopT (stLk c s nb box) (fun x => x.i ≤ c.kids.length ∧ (∀ y ∈ c.kids.take x.i, (y.lft s).2 = 0) ∧ TK tok nt x.tok x.nt [x.own]) (fun x => c.kids.length - x.i) ⟨0, .full, tok, nt⟩ ⟨Nat.zero_le _, by simp, (TK.start htok).full⟩ (Weaks.mk (Nat.le_refl _) rfl (by simp [ToL, lk]) (by simp [BoxL, lk])) ?_
   rintro ⟨i, own, tok', nt'⟩ S ⟨hi, hok, htk⟩ hS
   simp only [stLk] at hS hi htk hok
   subst hS
   have hw := sW (i := i) (by omega)
   obtain ⟨K, hK⟩ : ∃ K, (c.kids.take i).map (fun k => (k.lft s).1) = K := ⟨_, rfl⟩
   have hKl : K.length ≤ i := by rw [← hK]; simp; omega
   rw [hK]
   try (simp)
   repeat (refine sR ?_; simp)
   refine sC ?_
   simp
   refine ⟨fun hlt => ?_, fun hge => ?_⟩
   ·have hmem : c.kids[i] ∈ c.kids := List.getElem_mem hlt
    have ihx := ih _ hmem s hs (h2 _ hmem)
    have hstep : (c.kids.take (i + 1)).map (fun k => (k.lft s).1) = K ++ [(c.kids[i].lft s).1] := by rw [← hK, ← List.take_append_getElem hlt, List.map_append]; rfl
    have hall : (c.kids[i].lft s).2 = 0 → ∀ y ∈ c.kids.take (i + 1), (y.lft s).2 = 0 := fun h y hy => by
     rw [← List.take_append_getElem hlt] at hy
     rcases List.mem_append.1 hy with hy | hy
     ·exact hok y hy
     ·rw [List.mem_singleton.1 hy]; exact h
    have hbad := fun h => kidsE_at (f := fun x => Cd.lft x s) hlt hok h
    try (simp [hlt, Cd.cells_eq])
    repeat (refine sR ?_; simp [hlt, Cd.cells_eq])
    refine Stop.of_d (ihx _ _) ?_
    simp
    generalize c.kids[i].lft s = R at *
    try (simp)
    repeat (refine sR ?_; simp)
    by_cases e0 : R.2 = 0
    ·simp only [e0]
     refine sC ?_
     simp
     try (simp)
     repeat (refine sR ?_; simp)
     refine ⟨⟨by omega, htk.live⟩, ?_⟩
     try (simp [hw])
     repeat (refine sR ?_; simp [hw])
     refine sE ?_
     exact ⟨⟨i + 1, _, _, _⟩, ⟨hlt, hall e0, htk.app⟩, by simp only; omega, Weaks.mk htk.app.le rfl (by simp [ToL, lk]) (by simp [BoxL, lk, hstep, Cd.cells_eq])⟩
    ·have b0 : (R.2 != 0) = true := by simp [e0]
     rw [hL, hbad e0, if_pos e0]
     simp only [b0]
     refine sC ?_
     simp
     try (simp)
     repeat (refine sR ?_; simp)
     refine sT ?_
     try simp only [AU]
     refine ⟨by simp, sF hbox htok htk.old htk.le ?_⟩
     simp [packA, cdOf, Cd.kind, Cd.kids, Cd.m, Cd.g, Cd.sl, Cd.vars, Cd.te, conds, ints, AM.edges, slots, tests]
   ·refine sX ?_
    simp only [AU, ↓reduceIte]
    have : i = c.kids.length := by omega
    subst this
    rw [List.take_length] at hok
    rw [List.take_length] at hK
    rw [hL, kidsE_of hok, if_neg (by simp), hK]
    have hav : (cdOf c.kind K).av = .agg [I c.kind, .d (conds K), .d (ints []), .d (ints []), .d (ints []), .d (AM.edges []), .d (slots []), I 0, .d (tests [])] := rfl
    rw [hav]
    try (simp)
    repeat (refine sR ?_; simp)
    refine sT ?_
    try simp only [AU]
    refine ⟨by simp, sF hbox htok htk.old htk.le ?_⟩
    simp [packA, ints, AM.edges, slots, tests]
end Go.AM
namespace Go.AM
open Go Go.Proofs
theorem light_c (a : Gr) (c : Cd) (hb : c.Big) (tok : Nat → Bool) (nt : Nat) : DCall Tryz.prog 13 [a.av, c.av] tok nt (B (lightB a c)) tok nt := by
 refine light9_c a c hb ?_ tok nt
 by_cases h1 : c.fits 45 90 = true
 ·by_cases h2 : fewG a = true
  ·exact .inr (.inr (.inr (validR_c a c (fewG_fit h2) (Cd.fits_fit (n := 45) (m := 90) (by decide) (by decide) _ c (Nat.lt_succ_self _) hb h1))))
  ·exact .inr (.inr (.inl (by simpa using h2)))
 ·exact .inr (.inl (by simpa using h1))
theorem lightB_fit {a : Gr} {c : Cd} (hb : c.Big) (h : lightB a c = true) : a.Fit ∧ c.Fit := by
 unfold lightB at h
 split at h
 ·cases h
 ·split at h
  ·cases h
  ·rename_i h2
   split at h
   ·cases h
   ·rename_i h3
    exact ⟨fewG_fit (by simpa using h3), Cd.fits_fit (n := 45) (m := 90) (by decide) (by decide) _ c (Nat.lt_succ_self _) hb (by simpa using h2)⟩
end Go.AM
namespace Go.AM
open Go Go.Proofs
def movR (s : Sp) (c : Cd) : Cd × Int := if validC s.r c ≠ 0 then (cdOf 0 [], validC s.r c) else if (c.lft s).2 ≠ 0 then (cdOf 0 [], (c.lft s).2) else if validC s.l (c.lft s).1 ≠ 0 then (cdOf 0 [], validC s.l (c.lft s).1) else ((c.lft s).1, 0)
def leftR (r : Ru) (c : Cd) : Cd × Int := if strR r ≠ 0 then (cdOf 0 [], strR r) else movR r.sp c
theorem validC_zero {a : Gr} {c : Cd} (h : validC a c = 0) : validG a = 0 ∧ c.ovr a = 0 := by
 unfold validC at h
 split at h
 ·contradiction
 ·split at h
  ·contradiction
  ·rename_i h1 h2
   exact ⟨Decidable.not_not.1 h1, Decidable.not_not.1 h2⟩
theorem zav : (cdOf 0 []).av = .agg [I 0, .d (.sl 9 []), .d (.sl 1 []), .d (.sl 1 []), .d (.sl 1 []), .d (.sl 3 []), .d (.sl 4 []), I 0, .d (.sl 5 [])] := rfl
set_option maxRecDepth 100000 in
theorem moved_c (s : Sp) (c : Cd) (hs : SpOk s) (hf : c.Fit) (tok : Nat → Bool) (nt : Nat) : DCall Tryz.prog 42 [spAv s, c.av] tok nt (.tup [(movR s c).1.av, I (movR s c).2]) tok nt := by
 intro box nb
 obtain ⟨fl, fr, fk, fi⟩ := hs.fit
 have h1 := validC_c s.r c fr hf
 have h2 := fun hv => left_c _ c (Nat.lt_succ_self _) hf s hs hv
 refine sB Tryz.func42 Tryz.ntmps42 ?_
 intro hbox htok
 simp only at hbox htok
 apply AL.start
 try (simp)
 repeat (refine sR ?_; simp)
 refine Stop.of_d (h1 _ _) ?_
 simp
 try (simp)
 repeat (refine sR ?_; simp)
 by_cases e1 : validC s.r c = 0
 ·have hv := (validC_zero e1).2
  simp only [e1]
  refine sC ?_
  simp
  try (simp)
  repeat (refine sR ?_; simp)
  refine Stop.of_d (h2 hv _ _) ?_
  simp
  have hok := lft_ok _ c (Nat.lt_succ_self _) hf s hs hv
  obtain ⟨R, hR⟩ : ∃ R, c.lft s = R := ⟨_, rfl⟩
  rw [hR] at hok ⊢
  try (simp)
  repeat (refine sR ?_; simp)
  by_cases e2 : R.2 = 0
  ·have h3 := validC_c s.l R.1 fl (hok e2).fit
   simp only [e2]
   refine sC ?_
   simp
   try (simp)
   repeat (refine sR ?_; simp)
   refine Stop.of_d (h3 _ _) ?_
   simp
   try (simp)
   repeat (refine sR ?_; simp)
   by_cases e3 : validC s.l R.1 = 0
   ·rw [show movR s c = (R.1, 0) by rw [movR, if_neg (by simp [e1]), hR, if_neg (by simp [e2]), if_neg (by simp [e3])]]
    simp only [e3]
    refine sC ?_
    simp
    try (simp)
    repeat (refine sR ?_; simp)
    refine sT ?_
    try simp only [AU]
    refine ⟨by simp, sF hbox htok (fun _ h => h) (Nat.le_refl _) ?_⟩
    simp [packA]
   ·rw [show movR s c = (cdOf 0 [], validC s.l R.1) by rw [movR, if_neg (by simp [e1]), hR, if_neg (by simp [e2]), if_pos e3], zav]
    have b3 : (validC s.l R.1 != 0) = true := by simp [e3]
    simp only [b3]
    refine sC ?_
    simp
    try (simp)
    repeat (refine sR ?_; simp)
    refine sT ?_
    try simp only [AU]
    refine ⟨by simp, sF hbox htok (fun _ h => h) (Nat.le_refl _) ?_⟩
    simp [packA]
  ·rw [show movR s c = (cdOf 0 [], R.2) by rw [movR, if_neg (by simp [e1]), hR, if_pos e2], zav]
   have b2 : (R.2 != 0) = true := by simp [e2]
   simp only [b2]
   refine sC ?_
   simp
   try (simp)
   repeat (refine sR ?_; simp)
   refine sT ?_
   try simp only [AU]
   refine ⟨by simp, sF hbox htok (fun _ h => h) (Nat.le_refl _) ?_⟩
   simp [packA]
 ·rw [show movR s c = (cdOf 0 [], validC s.r c) by rw [movR, if_pos e1], zav]
  have b1 : (validC s.r c != 0) = true := by simp [e1]
  simp only [b1]
  refine sC ?_
  simp
  try (simp)
  repeat (refine sR ?_; simp)
  refine sT ?_
  try simp only [AU]
  refine ⟨by simp, sF hbox htok (fun _ h => h) (Nat.le_refl _) ?_⟩
  simp [packA]
set_option maxRecDepth 100000 in
theorem leftP_c (r : Ru) (c : Cd) (hr : r.Fit) (hf : c.Fit) (tok : Nat → Bool) (nt : Nat) : DCall Tryz.prog 14 [r.av, c.av] tok nt (.tup [(leftR r c).1.av, I (leftR r c).2]) tok nt := by
 intro box nb
 have h1 := structural_c r hr
 have h2 := tof_c r
 have h3 := fun hs => moved_c r.sp c hs hf
 refine sB Tryz.func14 Tryz.ntmps14 ?_
 intro hbox htok
 simp only at hbox htok
 apply AL.start
 try (simp)
 repeat (refine sR ?_; simp)
 refine Stop.of_d (h1 _ _) ?_
 simp
 try (simp)
 repeat (refine sR ?_; simp)
 by_cases e1 : strR r = 0
 ·have hs := (strR_zero e1).1
  rw [show leftR r c = movR r.sp c by rw [leftR, if_neg (by simp [e1])]]
  simp only [e1]
  refine sC ?_
  simp
  try (simp)
  repeat (refine sR ?_; simp)
  refine Stop.of_d (h2 _ _) ?_
  simp
  try (simp)
  repeat (refine sR ?_; simp)
  refine Stop.of_d (h3 hs _ _) ?_
  simp
  try (simp)
  repeat (refine sR ?_; simp)
  refine sT ?_
  try simp only [AU]
  refine ⟨by simp, sF hbox htok (fun _ h => h) (Nat.le_refl _) ?_⟩
  simp [packA]
 ·rw [show leftR r c = (cdOf 0 [], strR r) by rw [leftR, if_pos e1], zav]
  have b1 : (strR r != 0) = true := by simp [e1]
  simp only [b1]
  refine sC ?_
  simp
  try (simp)
  repeat (refine sR ?_; simp)
  refine sT ?_
  try simp only [AU]
  refine ⟨by simp, sF hbox htok (fun _ h => h) (Nat.le_refl _) ?_⟩
  simp [packA]
end Go.AM
namespace Go.AM
open Go Go.Proofs
theorem false34_c (tok : Nat → Bool) (nt : Nat) : DCall Tryz.prog 96 [] tok nt noC.av tok nt := by
 intro box nb
 have h := true33_c
 refine sB Tryz.func96 Tryz.ntmps96 ?_
 intro hbox htok
 simp only at hbox htok
 apply AL.start
 try (simp)
 repeat (refine sR ?_; simp)
 refine Stop.of_d (h _ _) ?_
 simp
 try (simp)
 repeat (refine sR ?_; simp)
 refine sT ?_
 try simp only [AU]
 refine ⟨by simp, sF hbox htok (fun _ h => h) (Nat.le_refl _) ?_⟩
 simp [packA, noC, Cd.cells, Cd.rows, trueC, cdOf, Cd.kind, Cd.kids, Cd.m, Cd.g, Cd.sl, Cd.vars, Cd.te, conds, ints, AM.edges, slots, tests]
end Go.AM
namespace Go.AM
open Go Go.Proofs
set_option maxRecDepth 100000 in
theorem structural34_c (r : Ru) (hr : r.Fit) (tok : Nat → Bool) (nt : Nat) : DCall Tryz.prog 18 [r.av] tok nt (I (strR r)) tok nt := by
 intro box nb
 have h1 := valid05_c r.lg hr.lg
 have h2 := valid05_c r.rg hr.rg
 have h3 := valid07_c r.lg r.k hr.lg hr.k
 have h4 := fun h => extract07_c r.lg r.k hr.lg hr.k h
 have h5 := fun h => valid53_c (exG r.lg r.k) r.rg r.i h hr.rg
 have h6 := fun h => injective26_c (exG r.lg r.k) r.rg r.i h hr.rg hr.i
 have hls := hr.ls
 have hlt := hr.lt
 have hrs := hr.rs
 have hrt := hr.rt
 rw [bigN_eq] at hls hlt hrs hrt
 refine sB Tryz.func18 Tryz.ntmps18 ?_
 intro hbox htok
 simp only at hbox htok
 apply AL.start
 try (simp)
 repeat (refine sR ?_; simp)
 refine Stop.of_d (h1 _ _) ?_
 simp
 try (simp)
 repeat (refine sR ?_; simp)
 by_cases e1 : validG r.lg = 0
 ·simp only [e1]
  refine sC ?_
  simp
  try (simp)
  repeat (refine sR ?_; simp)
  refine Stop.of_d (h2 _ _) ?_
  simp
  try (simp)
  repeat (refine sR ?_; simp)
  by_cases e2 : validG r.rg = 0
  ·simp only [e2]
   refine sC ?_
   simp
   try (simp)
   repeat (refine sR ?_; simp)
   refine Stop.of_d (h3 _ _) ?_
   simp
   try (simp)
   repeat (refine sR ?_; simp)
   by_cases e3 : validP r.lg r.k = 0
   ·simp only [e3]
    refine sC ?_
    simp
    try (simp)
    repeat (refine sR ?_; simp)
    have hp := VP.of e3
    have hx := hp.emb.fit.2.1
    refine Stop.of_d (h4 hp _ _) ?_
    simp
    try (simp)
    repeat (refine sR ?_; simp)
    refine Stop.of_d (h5 hx _ _) ?_
    simp
    try (simp)
    repeat (refine sR ?_; simp)
    by_cases e4 : validM (exG r.lg r.k) r.rg r.i = 0
    ·simp only [e4]
     refine sC ?_
     simp
     try (simp)
     repeat (refine sR ?_; simp)
     refine Stop.of_d (h6 hx _ _) ?_
     simp
     try (simp)
     repeat (refine sR ?_; simp)
     cases e5 : injM (exG r.lg r.k) r.rg r.i
     ·refine sC ?_
      simp
      try (simp)
      repeat (refine sR ?_; simp)
      refine sT ?_
      try simp only [AU]
      refine ⟨by simp, sF hbox htok (fun _ h => h) (Nat.le_refl _) ?_⟩
      simp [packA, strR, e1, e2, e3, e4, e5]
     ·refine sC ?_
      simp
      have w0 : IntKind.i64.wrap ((r.lsl.length : Int) + r.lte.length) = (r.lsl.length : Int) + r.lte.length := wrap_in (by omega) (by omega)
      have w1 : IntKind.i64.wrap ((r.lsl.length : Int) + r.lte.length + r.rsl.length) = (r.lsl.length : Int) + r.lte.length + r.rsl.length := wrap_in (by omega) (by omega)
      have w2 : IntKind.i64.wrap ((r.lsl.length : Int) + r.lte.length + r.rsl.length + r.rte.length) = (r.lsl.length : Int) + r.lte.length + r.rsl.length + r.rte.length := wrap_in (by omega) (by omega)
      by_cases s1 : ((r.lsl.length : Int) + r.lte.length + r.rsl.length + r.rte.length) = 0
      ·have b1 : (((r.lsl.length : Int) + r.lte.length + r.rsl.length + r.rte.length) == 0) = true := by rw [beq_iff_eq]; exact s1
       by_cases s2 : r.lv = 0
       ·have b2 : (r.lv == 0) = true := by simp [s2]
        by_cases s3 : r.rv = 0
        ·have b3 : (r.rv == 0) = true := by simp [s3]
         have y1 : r.plainL := ⟨by omega, s2⟩
         have y2 : r.plainR := ⟨by omega, s3⟩
         cases hin : r.inj
         ·try (simp [w0, w1, w2, b1, b2, b3, hin])
          repeat (refine sR ?_; simp [w0, w1, w2, b1, b2, b3, hin])
          refine sC ?_
          simp
          try (simp)
          repeat (refine sR ?_; simp)
          refine sT ?_
          try simp only [AU]
          refine ⟨by simp, sF hbox htok (fun _ h => h) (Nat.le_refl _) ?_⟩
          simp [packA, strR, e1, e2, e3, e4, e5, y1, y2, hin]
         ·try (simp [w0, w1, w2, b1, b2, b3, hin])
          repeat (refine sR ?_; simp [w0, w1, w2, b1, b2, b3, hin])
          refine sC ?_
          simp
          try (simp)
          repeat (refine sR ?_; simp)
          refine sT ?_
          try simp only [AU]
          refine ⟨by simp, sF hbox htok (fun _ h => h) (Nat.le_refl _) ?_⟩
          simp [packA, strR, e1, e2, e3, e4, e5, y1, y2, hin]
        ·have b3 : (r.rv == 0) = false := by simp [s3]
         have n2 : ¬ r.plainR := fun h => s3 h.2
         try (simp [w0, w1, w2, b1, b2, b3])
         repeat (refine sR ?_; simp [w0, w1, w2, b1, b2, b3])
         refine sC ?_
         simp
         try (simp)
         repeat (refine sR ?_; simp)
         refine sT ?_
         try simp only [AU]
         refine ⟨by simp, sF hbox htok (fun _ h => h) (Nat.le_refl _) ?_⟩
         simp [packA, strR, e1, e2, e3, e4, e5, n2]
       ·have b2 : (r.lv == 0) = false := by simp [s2]
        have n1 : ¬ r.plainL := fun h => s2 h.2
        try (simp [w0, w1, w2, b1, b2])
        repeat (refine sR ?_; simp [w0, w1, w2, b1, b2])
        refine sC ?_
        simp
        try (simp)
        repeat (refine sR ?_; simp)
        refine sT ?_
        try simp only [AU]
        refine ⟨by simp, sF hbox htok (fun _ h => h) (Nat.le_refl _) ?_⟩
        simp [packA, strR, e1, e2, e3, e4, e5, n1]
      ·have b1 : (((r.lsl.length : Int) + r.lte.length + r.rsl.length + r.rte.length) == 0) = false := by rw [beq_eq_false_iff_ne]; exact s1
       have n1 : ¬ (r.plainL ∧ r.plainR ∧ r.inj = true) := fun h => by
        have h1 := h.1.1
        have h2 := h.2.1.1
        omega
       have hS : strR r = 8 := by simp only [strR, e1, e2, e3, e4, e5]; simp [n1]
       rw [hS]
       try (simp [w0, w1, w2, b1])
       repeat (refine sR ?_; simp [w0, w1, w2, b1])
       refine sC ?_
       simp
       try (simp)
       repeat (refine sR ?_; simp)
       refine sT ?_
       try simp only [AU]
       refine ⟨by simp, sF hbox htok (fun _ h => h) (Nat.le_refl _) ?_⟩
       simp [packA]
    ·have b4 : (validM (exG r.lg r.k) r.rg r.i != 0) = true := by simp [e4]
     simp only [b4]
     refine sC ?_
     simp
     try (simp)
     repeat (refine sR ?_; simp)
     refine sT ?_
     try simp only [AU]
     refine ⟨by simp, sF hbox htok (fun _ h => h) (Nat.le_refl _) ?_⟩
     simp [packA, strR, e1, e2, e3, e4]
   ·have b3 : (validP r.lg r.k != 0) = true := by simp [e3]
    simp only [b3]
    refine sC ?_
    simp
    try (simp)
    repeat (refine sR ?_; simp)
    refine sT ?_
    try simp only [AU]
    refine ⟨by simp, sF hbox htok (fun _ h => h) (Nat.le_refl _) ?_⟩
    simp [packA, strR, e1, e2, e3]
  ·have b2 : (validG r.rg != 0) = true := by simp [e2]
   simp only [b2]
   refine sC ?_
   simp
   try (simp)
   repeat (refine sR ?_; simp)
   refine sT ?_
   try simp only [AU]
   refine ⟨by simp, sF hbox htok (fun _ h => h) (Nat.le_refl _) ?_⟩
   simp [packA, strR, e1, e2]
 ·have b1 : (validG r.lg != 0) = true := by simp [e1]
  simp only [b1]
  refine sC ?_
  simp
  try (simp)
  repeat (refine sR ?_; simp)
  refine sT ?_
  try simp only [AU]
  refine ⟨by simp, sF hbox htok (fun _ h => h) (Nat.le_refl _) ?_⟩
  simp [packA, strR, e1]
def fewR (r : Ru) : Bool := fewG r.lg && fewG r.rg && fewM r.k 140 && fewM r.i 140
structure Ru.Big (r : Ru) : Prop where
 k : r.k.nodes.length ≤ bigN ∧ r.k.edges.length ≤ bigN
 i : r.i.nodes.length ≤ bigN ∧ r.i.edges.length ≤ bigN
 ls : r.lsl.length ≤ bigN
 lt : r.lte.length ≤ bigN
 rs : r.rsl.length ≤ bigN
 rt : r.rte.length ≤ bigN
 c : r.c.Big
theorem few34_c (r : Ru) (hb : r.Big) (tok : Nat → Bool) (nt : Nat) : DCall Tryz.prog 12 [r.av] tok nt (B (fewR r)) tok nt := by
 intro box nb
 obtain ⟨k1, k2⟩ := hb.k
 obtain ⟨i1, i2⟩ := hb.i
 rw [bigN_eq] at k1 k2 i1 i2
 have h1 := few05_c r.lg
 have h2 := few05_c r.rg
 have h3 := few07_c r.k 140 (by omega) (by omega)
 have h4 := few06_c r.i 140 (by omega) (by omega)
 refine sB Tryz.func12 Tryz.ntmps12 ?_
 intro hbox htok
 simp only at hbox htok
 apply AL.start
 try (simp)
 repeat (refine sR ?_; simp)
 refine Stop.of_d (h1 _ _) ?_
 simp
 try (simp)
 repeat (refine sR ?_; simp)
 cases e1 : fewG r.lg
 ·try (simp)
  repeat (refine sR ?_; simp)
  refine sT ?_
  try simp only [AU]
  refine ⟨by simp, sF hbox htok (fun _ h => h) (Nat.le_refl _) ?_⟩
  simp [packA, fewR, e1]
 ·try (simp)
  repeat (refine sR ?_; simp)
  refine Stop.of_d (h2 _ _) ?_
  simp
  try (simp)
  repeat (refine sR ?_; simp)
  cases e2 : fewG r.rg
  ·try (simp)
   repeat (refine sR ?_; simp)
   refine sT ?_
   try simp only [AU]
   refine ⟨by simp, sF hbox htok (fun _ h => h) (Nat.le_refl _) ?_⟩
   simp [packA, fewR, e1, e2]
  ·try (simp)
   repeat (refine sR ?_; simp)
   refine Stop.of_d (h3 _ _) ?_
   simp
   try (simp)
   repeat (refine sR ?_; simp)
   cases e3 : fewM r.k 140
   ·try (simp)
    repeat (refine sR ?_; simp)
    refine sT ?_
    try simp only [AU]
    refine ⟨by simp, sF hbox htok (fun _ h => h) (Nat.le_refl _) ?_⟩
    simp [packA, fewR, e1, e2, e3]
   ·try (simp)
    repeat (refine sR ?_; simp)
    refine Stop.of_d (h4 _ _) ?_
    simp
    try (simp)
    repeat (refine sR ?_; simp)
    refine sT ?_
    try simp only [AU]
    refine ⟨by simp, sF hbox htok (fun _ h => h) (Nat.le_refl _) ?_⟩
    simp [packA, fewR, e1, e2, e3]
end Go.AM
namespace Go.AM
open Go Go.Proofs
def backL (l : List Int) (n : Nat) : List Int := (List.range n).map fun (k : Nat) => indexI l (k : Int)
theorem backL_len (l : List Int) (n : Nat) : (backL l n).length = n := by simp [backL]
theorem backL_getD {l : List Int} {n k : Nat} (h : k < n) : (backL l n).getD k 0 = indexI l k := by simp [backL, h]
def BackOK : Prop := ∀ (l : List Int) (n : Nat), l.length ≤ 1000000 → n ≤ 1000000 → l.Nodup → ∀ (tok : Nat → Bool) (nt : Nat), DCall Tryz.prog 80 [.d (ints l), I n] tok nt (.d (ints (backL l n))) tok nt
end Go.AM
namespace Go.AM
open Go
theorem backL_succ (l : List Int) (k : Nat) : backL l (k + 1) = backL l k ++ [indexI l k] := by simp [backL, List.range_succ]
def backS (l : List Int) (k j : Nat) : List Int := backL l k ++ [indexI (l.take j) k]
theorem backS_len (l : List Int) (k j : Nat) : (backS l k j).length = k + 1 := by simp [backS, backL]
theorem backS_zero (l : List Int) (k : Nat) : backS l k 0 = backL l k ++ [-1] := by simp [backS, indexI]
theorem backS_all (l : List Int) (k : Nat) : backS l k l.length = backL l (k + 1) := by simp [backS, backL_succ]
theorem indexI_none {l : List Int} {v : Int} (h : v ∉ l) : indexI l v = -1 := by
 rcases indexI_spec l v with ⟨h1, _⟩ | ⟨k, _, h3, h4⟩
 ·exact h1
 ·exact absurd (h4 ▸ getD_mem h3) h
theorem take_mem {l : List Int} {j : Nat} (h : j < l.length) {v : Int} : v ∈ l.take (j + 1) ↔ v ∈ l.take j ∨ v = l.getD j 0 := by
 rw [← List.take_append_getElem h, List.mem_append, List.mem_singleton]
 simp [h]
theorem index_no {l : List Int} {j : Nat} (h : j < l.length) {v : Int} (hv : l.getD j 0 ≠ v) (hn : l.Nodup) : indexI (l.take (j + 1)) v = indexI (l.take j) v := by
 by_cases hm : v ∈ l.take j
 ·obtain ⟨a1, a2, a3⟩ := indexI_in hm
  obtain ⟨b1, b2, b3⟩ := indexI_in ((take_mem h).2 (.inl hm))
  have hnd : (l.take (j + 1)).Nodup := hn.sublist (List.take_sublist _ _)
  have hl : (l.take j).length ≤ (l.take (j + 1)).length := by simp; omega
  have e : (l.take (j + 1)).getD (indexI (l.take j) v).toNat 0 = v := by
   have q : (indexI (l.take j) v).toNat < (l.take j).length := by omega
   have q1 : (indexI (l.take j) v).toNat < j := by simp at q; omega
   have q2 : (l.take (j + 1)).getD (indexI (l.take j) v).toNat 0 = (l.take j).getD (indexI (l.take j) v).toNat 0 := by
    simp only [List.getD_eq_getElem?_getD, List.getElem?_take]
    rw [if_pos (by omega), if_pos q1]
   rw [q2]; exact a3
  have := getD_inj hnd (show (indexI (l.take j) v).toNat < (l.take (j + 1)).length by omega) (show (indexI (l.take (j + 1)) v).toNat < (l.take (j + 1)).length by omega) (e.trans b3.symm)
  omega
 ·rw [indexI_none hm, indexI_none fun hm2 => by
   rcases (take_mem h).1 hm2 with h1 | h1
   ·exact hm h1
   ·exact hv h1.symm]
theorem index_yes {l : List Int} {j : Nat} (h : j < l.length) (hn : l.Nodup) : indexI (l.take (j + 1)) (l.getD j 0) = j := by
 have hnd : (l.take (j + 1)).Nodup := hn.sublist (List.take_sublist _ _)
 have hj : j < (l.take (j + 1)).length := by simp; omega
 have e : (l.take (j + 1)).getD j 0 = l.getD j 0 := by
  simp only [List.getD_eq_getElem?_getD, List.getElem?_take]
  rw [if_pos (by omega)]
 have := indexI_gd hnd hj
 rwa [e] at this
theorem backS_no {l : List Int} {k j : Nat} (h : j < l.length) (hv : l.getD j 0 ≠ k) (hn : l.Nodup) : backS l k (j + 1) = backS l k j := by rw [backS, backS, index_no h hv hn]
theorem backS_yes {l : List Int} {k j : Nat} (h : j < l.length) (hv : l.getD j 0 = k) (hn : l.Nodup) : backS l k (j + 1) = (backS l k j).set k j := by
 have h2 := index_yes h hn
 rw [hv] at h2
 have hl : (backL l k).length = k := by simp [backL]
 rw [backS, backS, h2, List.set_append_right _ _ (by omega), hl]
 simp
end Go.AM
namespace Go.Proofs.YtfgcpmeadeehhaaGreat.back
open Go Go.Proofs Go.RowKit Go.AM
theorem info3 : (Tryz.prog.info? 3).map (fun i => (i.zero, i.size, i.bytes)) = some (some (.int .i64 0), 1, 8) := by kernel_rfl
set_option maxHeartbeats 2000000 in
set_option maxRecDepth 100000 in
theorem any (b off n c m : Nat) (zs : List Int) (w : World) (hz : zs.length = n) (hn : n ≤ 1000000) (hm : m ≤ 1000000) (hd : zs.Nodup) (hb : b < w.heap.size) (hc : ∀ j, j < zs.length → w.cell? ⟨b, off + j, none⟩ = some (.int .i64 (zs.getD j 0))) :
  Calls Tryz.prog 80 #[.slice (some ⟨b, off, none⟩) n c, .int .i64 m] w fun e w' => ∃ v, e = .returned v ∧ w'.ownsRow w.heap.size 3 1 v m ((backL zs m).map (Value.int .i64)) ∧ Below w.heap.size w w' := by
 obtain ⟨i0, hi, hz0, hz1, hz2⟩ := info_parts info3
 go_enter Tryz.func80, Tryz.ntmps80
 go_wp2
 go_loopw [5, 6] (fun v i wr => ∃ k : Nat, k ≤ m ∧ i = .int .i64 k ∧ wr.ownsRow w.heap.size 3 1 v k ((backL zs k).map (Value.int .i64)) ∧ Below w.heap.size w wr) (fun _ i _ => m - (intOf i).toNat)
 case atStart => exact ⟨0, Nat.zero_le _, rfl, World.ownsRow_nil _ _ _ _, Below.refl _ _⟩
 case round =>
  obtain ⟨k, hk, rfl, hown, hnx⟩ := hrel
  go_wp2_with (first
   | (at_builtin; refine wpList_append_own _ rfl _ _ 22 rfl w.heap.size 3 i0 (.int .i64 0) 1 8 Tryz.underlying22 hi hz0 hz1 hz2 rfl (by decide) _ _ _ rfl (hown.alloc _) ⟨wr.heap.size, 0, none⟩ 1 1 [.int .i64 (-1)] rfl rfl ?c1 ?c2 ?c3 ?c4 ?c5 ?_)
   | go_in)
  case c1 =>
   intro j u hj
   match j, hj with
   | 0, hj => simp at hj; subst hj; simp [Addr.add]
  case c2 => intro u hu; simp at hu; subst hu; rfl
  case c3 => unfold maxLen; omega
  case c4 => omega
  case c5 => have := hnx.size; simp; omega
  ·intro v' w1 hown' hgrow hne
   have hk' : k < m := by assumption
   obtain ⟨g, cap, rfl, hg1, hg2⟩ := hown'.form (by omega)
   have hnx1 : Below w.heap.size w w1 := (hnx.alloc (by have := hnx.size; omega) _).grown hgrow (by have := hnx.size; simp; omega) (fun q hq => (hown.lt q hq).1)
   rw [show List.map (Value.int .i64) (backL zs k) ++ [Value.int .i64 (-1)] = (backS zs k 0).map (Value.int .i64) by rw [backS_zero]; simp] at hown'
   clear hgrow hown hnx hne
   go_wp2
   go_loopw [7] (fun i wr => ∃ j : Nat, j ≤ n ∧ i = .int .i64 j ∧ wr.ownsRow w.heap.size 3 1 (.slice (some ⟨g, 0, none⟩) (k + 1) cap) (k + 1) ((backS zs k j).map (Value.int .i64)) ∧ Below w.heap.size w wr) (fun i _ => n - (intOf i).toNat)
   case atStart => exact ⟨0, Nat.zero_le _, rfl, hown', hnx1⟩
   case round =>
    clear hown' hnx1
    obtain ⟨j, hj, rfl, hown, hnx⟩ := hrel
    have hcx : j < n → wr.cell? ⟨b, off + j, none⟩ = some (.int .i64 (zs.getD j 0)) := fun h => (hnx.cell (by exact hb)).trans (hc j (by omega))
    have hst := hown.stored k (.int .i64 j)
    have hfz := hown.frozenAt k
    have hck : wr.cell? ⟨g, k, none⟩ = some (.int .i64 ((backS zs k j).getD k 0)) := by
     rw [hown.cellAt k (by omega), List.getElem?_map, List.getElem?_eq_getElem (by rw [backS_len]; omega)]
     simp [show k < (backS zs k j).length by rw [backS_len]; omega]
    go_wp2
    ·have hlt : j < n := by assumption
     have hjl : j < zs.length := by omega
     have h : (zs[j] == (k : Int)) = true := by assumption
     have e : zs.getD j 0 = (k : Int) := by
      have := beq_iff_eq.1 h
      simpa [hjl] using this
     refine ⟨⟨j + 1, by omega, by simp, ?_, hnx.setCell hg1 _⟩, by simp [intOf]; omega⟩
     rw [backS_yes hjl e hd, List.map_set]
     exact hst.1
    ·have hlt : j < n := by assumption
     have hjl : j < zs.length := by omega
     have h : (zs[j] == (k : Int)) = false := by assumption
     have e : zs.getD j 0 ≠ (k : Int) := by
      have := beq_eq_false_iff_ne.1 h
      simpa [hjl] using this
     refine ⟨⟨j + 1, by omega, by simp, ?_, hnx⟩, by simp [intOf]; omega⟩
     rw [backS_no hjl e hd]
     exact hown
    ·have hlt : ¬ j < n := by assumption
     have hjn : j = zs.length := by omega
     rw [hjn, backS_all] at hown
     exact ⟨⟨k + 1, by omega, by simp, hown, hnx⟩, by simp [intOf]; omega⟩
  ·go_ret
   have hk' : ¬ k < m := by assumption
   obtain rfl : k = m := by omega
   exact ⟨_, rfl, hown, hnx⟩
end Go.Proofs.YtfgcpmeadeehhaaGreat.back
namespace Go.Proofs.YtfgcpmeadeehhaaGreat.back
open Go Go.Proofs Go.RowKit Go.AM
set_option maxHeartbeats 2000000 in
set_option maxRecDepth 100000 in
theorem zero (A : Option Addr) (c m : Nat) (w : World) (hm : m ≤ 1000000) :
  Calls Tryz.prog 80 #[.slice A 0 c, .int .i64 m] w fun e w' => ∃ v, e = .returned v ∧ w'.ownsRow w.heap.size 3 1 v m ((backL [] m).map (Value.int .i64)) ∧ Below w.heap.size w w' := by
 obtain ⟨i0, hi, hz0, hz1, hz2⟩ := info_parts info3
 go_enter Tryz.func80, Tryz.ntmps80
 go_wp2
 go_loopw [5, 6] (fun v i wr => ∃ k : Nat, k ≤ m ∧ i = .int .i64 k ∧ wr.ownsRow w.heap.size 3 1 v k ((backL [] k).map (Value.int .i64)) ∧ Below w.heap.size w wr) (fun _ i _ => m - (intOf i).toNat)
 case atStart => exact ⟨0, Nat.zero_le _, rfl, World.ownsRow_nil _ _ _ _, Below.refl _ _⟩
 case round =>
  obtain ⟨k, hk, rfl, hown, hnx⟩ := hrel
  go_wp2_with (first
   | (at_builtin; refine wpList_append_own _ rfl _ _ 22 rfl w.heap.size 3 i0 (.int .i64 0) 1 8 Tryz.underlying22 hi hz0 hz1 hz2 rfl (by decide) _ _ _ rfl (hown.alloc _) ⟨wr.heap.size, 0, none⟩ 1 1 [.int .i64 (-1)] rfl rfl ?c1 ?c2 ?c3 ?c4 ?c5 ?_)
   | go_in)
  case c1 =>
   intro j u hj
   match j, hj with
   | 0, hj => simp at hj; subst hj; simp [Addr.add]
  case c2 => intro u hu; simp at hu; subst hu; rfl
  case c3 => unfold maxLen; omega
  case c4 => omega
  case c5 => have := hnx.size; simp; omega
  ·intro v' w1 hown' hgrow hne
   have hk' : k < m := by assumption
   have hnx1 : Below w.heap.size w w1 := (hnx.alloc (by have := hnx.size; omega) _).grown hgrow (by have := hnx.size; simp; omega) (fun q hq => (hown.lt q hq).1)
   rw [show List.map (Value.int .i64) (backL [] k) ++ [Value.int .i64 (-1)] = (backL [] (k + 1)).map (Value.int .i64) by rw [backL_succ]; simp [indexI]] at hown'
   clear hgrow hown hnx hne
   go_wp2
   go_loopw [7] (fun i wr => i = .int .i64 0 ∧ wr = w1) (fun i _ => 0)
   case atStart => exact ⟨rfl, rfl⟩
   case round =>
    obtain ⟨rfl, rfl⟩ := hrel
    go_wp2
    exact ⟨⟨k + 1, by omega, by simp, hown', hnx1⟩, by simp [intOf]; omega⟩
  ·go_ret
   have hk' : ¬ k < m := by assumption
   obtain rfl : k = m := by omega
   exact ⟨_, rfl, hown, hnx⟩
end Go.Proofs.YtfgcpmeadeehhaaGreat.back
namespace Go.AM
open Go Go.Proofs Go.RowKit
theorem backOK : BackOK := by
 intro l n hl hn hd tok nt box nb
 refine ⟨Enters.mk Tryz.func80 rfl (by kernel_rfl), fun G w vals hm hr => ?_⟩
 obtain ⟨hlen, hrv⟩ := hr
 match vals, hlen with
 | [v, u], _ =>
  have h0 := hrv 0 (by simp) (by simp)
  have h1 := hrv 1 (by simp) (by simp)
  simp only [List.getElem_cons_zero, List.getElem_cons_succ] at h0 h1
  cases h1 with
  | d h1 =>
  cases h1 with
  | raw h1 =>
  cases h0 with
  | d h0 =>
   obtain ⟨A, cap, rfl, hcap, hmax, hA, hc⟩ := rvd_ints h0
   have hll : (backL l n).length = n := backL_len l n
   by_cases e : l = []
   ·subst e
    refine (YtfgcpmeadeehhaaGreat.back.zero A cap n w hn).mono ?_
    rintro e w' ⟨v, rfl, ho, hb⟩
    rw [← hll] at ho
    simp only [hll] at ho
    exact ⟨_, _, _, G, rfl, ⟨rfl, rfl⟩, rfl, relM_below hm hb, .d (rvd_owns hm (by rw [hll]; exact ho)), le_below hm hb, fun k hk => ⟨hk, rfl⟩⟩
   ·obtain ⟨a, rfl⟩ := hA e
    have hp : 0 < l.length := List.length_pos_iff.2 e
    have hc' := hc a rfl
    have hs : a.spot = none := by
     cases hsp : a.spot with
     | none => rfl
     | some q =>
      exfalso
      have := hc' 0 hp
      simp only [World.cell?, Addr.add, hsp, Option.isSome_some, ↓reduceIte] at this
      split at this <;> simp at this
    obtain ⟨b, off, sp⟩ := a
    simp only at hs
    subst hs
    have hcc : ∀ j, j < l.length → w.cell? ⟨b, off + j, none⟩ = some (.int .i64 (l.getD j 0)) := fun j hj => by
     have h1 := hc' j hj
     unfold Addr.add at h1
     split at h1
     ·rename_i e; subst e; exact h1
     ·exact h1
    have hbw : b < w.heap.size := lt_of_cell (hcc 0 hp)
    refine (YtfgcpmeadeehhaaGreat.back.any b off l.length cap n l w rfl hl hn hd hbw hcc).mono ?_
    rintro e w' ⟨v, rfl, hown, hb⟩
    exact ⟨v, _, _, G, rfl, ⟨rfl, rfl⟩, rfl, relM_below hm hb, .d (rvd_owns hm (by rw [hll]; exact hown)), le_below hm hb, fun k hk => ⟨hk, rfl⟩⟩
end Go.AM
namespace Go.AM
open Go
def upP (ps : List Int) (i : Nat) : List Int := if _h : 0 ≤ ps.getD i 0 ∧ (ps.getD i 0).toNat < i then (i : Int) :: upP ps (ps.getD i 0).toNat else [(i : Int)]
termination_by i
decreasing_by exact _h.2
def upI (ps : List Int) (a : Int) : List Int := if a < 0 then [] else upP ps a.toNat
theorem upI_neg {ps : List Int} {a : Int} (h : a < 0) : upI ps a = [] := if_pos h
theorem upI_up {ps : List Int} {a : Int} (h : 0 ≤ a) (hp : ps.getD a.toNat 0 < a) : upI ps a = a :: upI ps (ps.getD a.toNat 0) := by
 rw [upI, if_neg (by omega), upP]
 by_cases h0 : 0 ≤ ps.getD a.toNat 0
 ·rw [dif_pos ⟨h0, by omega⟩, upI, if_neg (by omega), Int.toNat_of_nonneg h]
 ·rw [dif_neg (fun h2 => h0 h2.1), upI, if_pos (by omega), Int.toNat_of_nonneg h]
theorem upP_len (ps : List Int) : ∀ n i, i < n → (upP ps i).length ≤ i + 1
 | 0, i, h => absurd h (Nat.not_lt_zero _)
 | n + 1, i, h => by
  rw [upP]
  split
  ·rename_i h1
   have := upP_len ps n _ (show (ps.getD i 0).toNat < n by omega)
   simp only [List.length_cons]
   omega
  ·simp
theorem upI_len (ps : List Int) (a : Int) : (upI ps a).length ≤ (a + 1).toNat := by
 unfold upI
 split
 ·simp
 ·have := upP_len ps _ _ (Nat.lt_succ_self a.toNat)
  omega
end Go.AM
namespace Go.Proofs.YtfgcpmeadeehhaaGreat.line
open Go Go.Proofs Go.RowKit Go.AM Go.Sort
theorem own_le {w : World} {base base' : Nat} {e : TypeId} {size : Nat} {v : Value} {n : Nat} {xs : List Value} (h : w.ownsRow base e size v n xs) (hb : base' ≤ base) : w.ownsRow base' e size v n xs :=
 ⟨h.1, h.2.imp id fun ⟨g, cap, cur, a, b, c⟩ => ⟨g, cap, cur, a, Nat.le_trans hb b, c⟩⟩
theorem rev {base n : Nat} {v : Value} {l : List Int} {w0 w : World} (hown : w.ownsRow base 3 1 v n (l.map (Value.int .i64))) (hb : Below base w0 w) (hl : l.length ≤ 1000000) :
  Calls Tryz.prog 256 #[v] w fun e w' => e = .returned (.tuple #[]) ∧ w'.ownsRow base 3 1 v n (l.reverse.map (Value.int .i64)) ∧ Below base w0 w' := by
 rcases hown.2 with ⟨rfl, e0⟩ | ⟨g, cap, cur, rfl, hg1, hg2, hg3, hg4, hg5, hg6⟩
 ·refine (Tryz.slices_Reverse_int_empty _ _ _).mono ?_
  rintro e w3 ⟨rfl, rfl⟩
  subst e0
  have : l = [] := List.length_eq_zero_iff.1 (by simpa using hown.1)
  subst this
  exact ⟨rfl, hown, hb⟩
 ·obtain ⟨g', cap', hv, hgb, hgl, hncap, hcm, hlen, hH⟩ := Lib.holds_of_ownsRow hown (by simp)
  cases hv
  have hrev := Tryz.slices_Reverse_int g 0 cap l _ hH (by omega)
  rw [hlen] at hrev
  refine hrev.mono ?_
  rintro e w3 ⟨rfl, q, rfl⟩
  have hh := Lib.ownsRow_putRow (q := q) (ys := l.reverse) hown (by simpa using hlen) (Nat.le_refl _)
  rw [List.take_of_length_le (by simp [hlen])] at hh
  exact ⟨rfl, hh, Lib.below_putRow hb hg1⟩
set_option maxHeartbeats 2000000 in
set_option maxRecDepth 100000 in
theorem any (b off n c : Nat) (u : Value) (a0 : Int) (ps : List Int) (w : World) (hz : ps.length = n) (hn : n ≤ 1000000) (ha : a0 < n) (hp : ∀ j, j < n → ps.getD j 0 < j) (hb : b < w.heap.size) (hc : ∀ j, j < n → w.cell? ⟨b, off + j * 4 + 1, none⟩ = some (.int .i64 (ps.getD j 0))) :
  Calls Tryz.prog 225 #[.agg #[.slice (some ⟨b, off, none⟩) n c, u], .int .i64 a0] w fun e w' => ∃ v, e = .returned v ∧ w'.ownsRow w.heap.size 3 1 v (upI ps a0).length ((upI ps a0).reverse.map (Value.int .i64)) ∧ Below w.heap.size w w' := by
 obtain ⟨i0, hi, hz0, hz1, hz2'⟩ := info_parts YtfgcpmeadeehhaaGreat.back.info3
 go_enter Tryz.func225, Tryz.ntmps225
 go_wp2
 have hsz : (w.alloc (Obj.cells #[Value.slice (some { block := b, off := off }) n c, u] 49)).heap.size = w.heap.size + 1 := by unfold World.alloc; exact Array.size_push _
 have hz2 : (w.alloc (Obj.cells #[Value.slice (some { block := b, off := off }) n c, u] 49)).cell? ⟨w.heap.size, 0, none⟩ = some (Value.slice (some { block := b, off := off }) n c) := by rw [World.cell?_alloc_at _ _ _ _ rfl]; rfl
 have hcc : ∀ j, j < n → (w.alloc (Obj.cells #[Value.slice (some { block := b, off := off }) n c, u] 49)).cell? ⟨b, off + j * 4 + 1, none⟩ = some (.int .i64 (ps.getD j 0)) := fun j hj => ((Below.refl _ w).alloc (Nat.le_refl _) _ |>.cell (by exact hb)).trans (hc j hj)
 have hbel : Below w.heap.size w (w.alloc (Obj.cells #[Value.slice (some { block := b, off := off }) n c, u] 49)) := (Below.refl _ w).alloc (Nat.le_refl _) _
 generalize w.alloc (Obj.cells #[Value.slice (some { block := b, off := off }) n c, u] 49) = w1 at *
 go_loopw [1, 5] (fun x v wr => ∃ (a : Int) (l : List Int), x = .int .i64 a ∧ a < n ∧ l ++ upI ps a = upI ps a0 ∧ wr.ownsRow w1.heap.size 3 1 v l.length (l.map (Value.int .i64)) ∧ Below w1.heap.size w1 wr) (fun x _ _ => (intOf x + 1).toNat)
 case atStart => exact ⟨a0, [], rfl, ha, rfl, World.ownsRow_nil _ _ _ _, Below.refl _ _⟩
 case round =>
  obtain ⟨a, l, rfl, hal, hl, hown, hnx⟩ := hrel
  have hll : l.length ≤ n := by
   have h1 := congrArg List.length hl
   have h2 := upI_len ps a0
   rw [List.length_append] at h1
   omega
  have hr2 := (hnx.cell (p := ⟨w.heap.size, 0, none⟩) (by simp; omega)).trans hz2
  go_wp2_with (first
   | (at_builtin; refine wpList_append_own _ rfl _ _ 22 rfl w1.heap.size 3 i0 (.int .i64 0) 1 8 Tryz.underlying22 hi hz0 hz1 hz2' rfl (by decide) _ _ _ rfl (hown.alloc _) ⟨wr.heap.size, 0, none⟩ 1 1 [.int .i64 a] rfl rfl ?c1 ?c2 ?c3 ?c4 ?c5 ?_)
   | (go_at_call 256; refine (rev hown hnx (by omega)).mono ?_; rintro e w3 ⟨rfl, hown3, hnx3⟩)
   | go_in)
  case c1 =>
   intro j u hj
   match j, hj with
   | 0, hj => simp at hj; subst hj; simp [Addr.add]
  case c2 => intro u hu; simp at hu; subst hu; rfl
  case c3 => unfold maxLen; omega
  case c4 => omega
  case c5 => have := hnx.size; simp; omega
  ·intro v' w2 hown' hgrow hne
   have h0 : 0 ≤ a := by assumption
   obtain ⟨k, rfl⟩ := Int.eq_ofNat_of_zero_le h0
   have hnx1 : Below w1.heap.size w1 w2 := (hnx.alloc (by have := hnx.size; omega) _).grown hgrow (by have := hnx.size; simp; omega) (fun q hq => (hown.lt q hq).1)
   have hr3 := (hnx1.cell (p := ⟨w.heap.size, 0, none⟩) (by simp; omega)).trans hz2
   have hr4 := (hnx1.cell (p := ⟨b, off + k * 4 + 1, none⟩) (by simp; omega)).trans (hcc k (by omega))
   have hup := upI_up (ps := ps) h0 (by have := hp k (by omega); simpa using this)
   rw [hup, Int.toNat_natCast] at hl
   clear hgrow hown hnx hne
   go_wp2
   refine ⟨⟨ps.getD k 0, l ++ [(k : Int)], rfl, by have := hp k (by omega); omega, by rw [List.append_assoc]; exact hl, by simpa [hsz] using hown', hnx1⟩, ?_⟩
   have := hp k (by omega)
   simp at this
   simp [intOf]
   omega
  ·go_ret
   have h0 : a < 0 := by assumption
   rw [upI_neg h0, List.append_nil] at hl
   rw [← hl]
   exact ⟨_, rfl, own_le hown3 (by omega), hbel.trans (hnx3.mono (by omega))⟩
end Go.Proofs.YtfgcpmeadeehhaaGreat.line
namespace Go.AM
open Go Go.Proofs Go.RowKit
abbrev Ty.pars (t : Ty) : List Int := t.nodes.map NT.par
theorem pars_getD (t : Ty) {j : Nat} (h : j < t.nodes.length) : t.pars.getD j 0 = (t.nd j).par := by simp [Ty.pars, Ty.nd, h]
theorem rvd_pars {c : Addr → Option Value} {ps : Addr → Prop} {l : List NT} {v : Value} (h : RVd c ps (nts l) v) :
  ∃ A cap, v = .slice A l.length cap ∧ l.length ≤ cap ∧ cap ≤ maxLen ∧ (l ≠ [] → ∃ a, A = some a) ∧ ∀ a, A = some a → ∀ i (hi : i < l.length), c (a.add (i * 4)) = some (.string l[i].name) ∧ c (a.add (i * 4 + 1)) = some (.int .i64 l[i].par) := by
 unfold nts at h
 generalize hes : l.map NT.cells = es at h
 cases h with
 | @sl _ _ A cap u hcap hmax hsz hA hc hr =>
  have hl : es.length = l.length := by rw [← hes]; simp
  refine ⟨A, cap, by rw [hl], by omega, hmax, fun hne => hA (by intro e; rw [e] at hl; exact hne (List.length_eq_zero_iff.1 hl.symm)), fun a ha i hi => ⟨?_, ?_⟩⟩
  ·have g := (hc a ha i 0 (by omega) (by decide)).2
   have r := hr i 0 (by omega) (by rw [hsz _ (List.getElem_mem _)]; decide)
   have e1 : es[i][0]'(by rw [hsz _ (List.getElem_mem _)]; decide) = D.raw (.string l[i].name) := by
    subst hes
    simp
   rw [e1] at r
   have e2 : u i 0 = .string l[i].name := by
    generalize hu : u i 0 = x at r
    cases r
    rfl
   rw [← e2]; exact g
  ·have g := (hc a ha i 1 (by omega) (by decide)).2
   have r := hr i 1 (by omega) (by rw [hsz _ (List.getElem_mem _)]; decide)
   have e1 : es[i][1]'(by rw [hsz _ (List.getElem_mem _)]; decide) = D.raw (.int .i64 l[i].par) := by
    subst hes
    simp
   rw [e1] at r
   have e2 : u i 1 = .int .i64 l[i].par := by
    generalize hu : u i 1 = x at r
    cases r
    rfl
   rw [← e2]; exact g
theorem line_c (t : Ty) (ht : t.nodes.length ≤ 1000000) (a : Int) (h0 : 0 ≤ a) (ha : a < t.nodes.length) (hp : ∀ j, j < t.nodes.length → (t.nd j).par < j) (tok : Nat → Bool) (nt : Nat) : DCall Tryz.prog 225 [t.av, I a] tok nt (.d (ints (upI t.pars a).reverse)) tok nt := by
 intro box nb
 refine ⟨Enters.mk Tryz.func225 rfl (by kernel_rfl), fun G w vals hm hr => ?_⟩
 obtain ⟨hlen, hrv⟩ := hr
 match vals, hlen with
 | [v, x], _ =>
  have h0 := hrv 0 (by simp) (by simp)
  have h1 := hrv 1 (by simp) (by simp)
  simp only [List.getElem_cons_zero, List.getElem_cons_succ] at h0 h1
  cases h1 with
  | d h1 =>
  cases h1 with
  | raw h1 =>
  cases h0 with
  | @agg _ vs hl h2 h3 =>
   match vs, hl with
   | [v1, v2], _ =>
    have h4 := h2 0 (by simp) (by simp)
    simp only [List.getElem_cons_zero] at h4
    cases h4 with
    | d h4 =>
     obtain ⟨A, cap, rfl, hcap, hmax, hA, hc⟩ := rvd_pars h4
     have e : t.nodes ≠ [] := by intro e; rw [e] at ha; simp at ha; omega
     obtain ⟨a1, rfl⟩ := hA e
     have hp0 : 0 < t.nodes.length := List.length_pos_iff.2 e
     have hc' := hc a1 rfl
     have hs : a1.spot = none := by
      cases hsp : a1.spot with
      | none => rfl
      | some q =>
       exfalso
       have := (hc' 0 hp0).1
       simp only [World.cell?, Addr.add, hsp, Option.isSome_some, ↓reduceIte] at this
       split at this <;> simp at this
     obtain ⟨b, off, sp⟩ := a1
     simp only at hs
     subst hs
     have hcc : ∀ j, j < t.nodes.length → w.cell? ⟨b, off + j * 4 + 1, none⟩ = some (.int .i64 (t.pars.getD j 0)) := fun j hj => by
      have h1 := (hc' j hj).2
      rw [pars_getD t hj, nd_at hj]
      unfold Addr.add at h1
      split at h1
      ·rename_i e; omega
      ·rw [show off + j * 4 + 1 = off + (j * 4 + 1) by omega]; exact h1
     have hbw : b < w.heap.size := lt_of_cell (hcc 0 hp0)
     refine (YtfgcpmeadeehhaaGreat.line.any b off t.nodes.length cap v2 a t.pars w (by simp) ht (by omega) (fun j hj => by rw [pars_getD t hj]; exact hp j hj) hbw hcc).mono ?_
     rintro e w' ⟨v, rfl, hown, hb⟩
     refine ⟨v, _, _, G, rfl, ⟨rfl, rfl⟩, rfl, relM_below hm hb, .d (rvd_owns hm (by rw [List.length_reverse]; exact hown)), le_below hm hb, fun k hk => ⟨hk, rfl⟩⟩
end Go.AM
namespace Go.AM
open Go Go.Proofs
theorem Ty.Fit.hM {t : Ty} (h : t.Fit) (i : Nat) : (t.nd i).own.length ≤ 1000 := by
 by_cases hi : i < t.nodes.length
 ·rw [nd_at hi]; exact (h.a _ (List.getElem_mem hi)).1
 ·simp [Ty.nd, List.getElem?_eq_none (Nat.le_of_not_lt hi)]
  exact Nat.zero_le _
theorem given1_c (t : Ty) (n : Int) (box : Nat → Option (List (List AV))) (nb k : Nat) (tok : Nat → Bool) (nt : Nat) (h1 : box k = some [[.d (nts t.nodes), .d (ets t.edges)]]) :
  ACalls Tryz.prog 224 [I n, .ptr k 0 0] ⟨box, nb, tok, nt⟩ fun v m => v = B (!insB t n) ∧ m = ⟨box, nb, tok, nt⟩ := by
 by_cases h0 : n < 0
 ·rw [show insB t n = false by simp only [insB, decide_eq_false_iff_not]; omega]
  refine sB Tryz.func224 Tryz.ntmps224 ?_
  intro hbox htok
  simp only at hbox htok
  apply AL.start
  have k1n := key_lt hbox h1
  try (simp [lb_out k1n, h1, h0])
  repeat (refine sR ?_; simp [lb_out k1n, h1, h0])
  refine sT ?_
  try simp only [AU]
  refine ⟨by simp, sF hbox htok (fun _ h => h) (Nat.le_refl _) ?_⟩
  simp [packA]
 ·by_cases h2 : (t.nodes.length : Int) ≤ n
  ·rw [show insB t n = false by simp only [insB, decide_eq_false_iff_not]; omega]
   refine sB Tryz.func224 Tryz.ntmps224 ?_
   intro hbox htok
   simp only at hbox htok
   apply AL.start
   have k1n := key_lt hbox h1
   try (simp [lb_out k1n, h1, h0, h2])
   repeat (refine sR ?_; simp [lb_out k1n, h1, h0, h2])
   refine sT ?_
   try simp only [AU]
   refine ⟨by simp, sF hbox htok (fun _ h => h) (Nat.le_refl _) ?_⟩
   simp [packA]
  ·rw [show insB t n = true by simp only [insB, decide_eq_true_eq]; omega]
   refine sB Tryz.func224 Tryz.ntmps224 ?_
   intro hbox htok
   simp only at hbox htok
   apply AL.start
   have k1n := key_lt hbox h1
   try (simp [lb_out k1n, h1, h0, h2])
   repeat (refine sR ?_; simp [lb_out k1n, h1, h0, h2])
   refine sT ?_
   try simp only [AU]
   refine ⟨by simp, sF hbox htok (fun _ h => h) (Nat.le_refl _) ?_⟩
   simp [packA]
def givE (t : Ty) (l : List Int) : Int := if tyE t = 0 then (if anyB (fun a => !insB t a) l = true then 6 else 0) else tyE t
theorem given_c (t : Ty) (ht : t.Fit) (l : List Int) (hl : l.length ≤ 1000000) (tok : Nat → Bool) (nt : Nat) : DCall Tryz.prog 173 [t.av, .d (ints l)] tok nt (I (givE t l)) tok nt := by
 intro box nb
 have h1 := valid_c4 t ht ht.hM
 obtain ⟨N, hN⟩ : ∃ N, givE t l = N := ⟨_, rfl⟩
 rw [hN]
 unfold givE at hN
 generalize tyE t = E at *
 generalize tyN t = Z at *
 refine sB Tryz.func173 Tryz.ntmps173 ?_
 intro hbox htok
 simp only at hbox htok
 apply AL.start
 try (simp)
 repeat (refine sR ?_; simp)
 refine Stop.of_d (h1 _ _) ?_
 simp
 try (simp)
 repeat (refine sR ?_; simp)
 by_cases e1 : E = 0
 ·rw [if_pos e1] at hN
  obtain ⟨p, hpp⟩ : ∃ p : Int → Bool, (fun a => !insB t a) = p := ⟨_, rfl⟩
  have h2 := fun y box nb k hbk => given1_c t y box nb k tok nt hbk
  have hpy : ∀ y : Int, (!insB t y) = p y := fun y => by rw [← hpp]
  simp only [hpy] at h2
  rw [hpp] at hN
  refine sC ?_
  simp [e1]
  try (simp)
  repeat (refine sR ?_; simp)
  refine Stop.of_b (containsFunc_c l 224 [.ptr (nb + 2) 0 0] p hl _ _ _ _ (fun c hc => by rw [List.mem_singleton.1 hc]; simp [lb_at]) (fun y hy box' nb' he => h2 y box' nb' _ (he _ _ (by simp [lb_at])))) ?_
  simp
  cases e2 : anyB p l
  ·rw [e2, if_neg (by simp)] at hN
   try (simp)
   repeat (refine sR ?_; simp)
   refine sC ?_
   simp
   try (simp)
   repeat (refine sR ?_; simp)
   refine sT ?_
   try simp only [AU]
   refine ⟨by simp, sF hbox htok (fun _ h => h) (Nat.le_refl _) ?_⟩
   simp [packA, ← hN]
  ·rw [e2, if_pos rfl] at hN
   try (simp)
   repeat (refine sR ?_; simp)
   refine sC ?_
   simp
   try (simp)
   repeat (refine sR ?_; simp)
   refine sT ?_
   try simp only [AU]
   refine ⟨by simp, sF hbox htok (fun _ h => h) (Nat.le_refl _) ?_⟩
   simp [packA, ← hN]
 ·rw [if_neg e1] at hN
  have b1 : (E != 0) = true := by simp [e1]
  refine sC ?_
  simp [b1]
  try (simp)
  repeat (refine sR ?_; simp)
  refine sT ?_
  try simp only [AU]
  refine ⟨by simp, sF hbox htok (fun _ h => h) (Nat.le_refl _) ?_⟩
  simp [packA, ← hN]
def isB (t : Ty) (a b : Int) : Bool := decide (b ∈ upI t.pars a)
theorem is_c (t : Ty) (ht : t.Fit) (a b : Int) (h0 : 0 ≤ a) (ha : a < t.nodes.length) (hp : ∀ j, j < t.nodes.length → (t.nd j).par < j) (tok : Nat → Bool) (nt : Nat) : DCall Tryz.prog 174 [t.av, I a, I b] tok nt (B (isB t a b)) tok nt := by
 intro box nb
 have hc := line_c t (by have := ht.n; omega) a h0 ha hp
 have hlen := upI_len t.pars a
 have htn := ht.n
 obtain ⟨N, hN⟩ : ∃ N, isB t a b = N := ⟨_, rfl⟩
 rw [hN]
 unfold isB at hN
 have hN2 : decide (b ∈ (upI t.pars a).reverse) = N := by rw [← hN]; simp
 have hl2 : (upI t.pars a).reverse.length ≤ 1000000 := by rw [List.length_reverse]; omega
 generalize (upI t.pars a).reverse = L at *
 have hk := contains_c L b hl2
 rw [hN2] at hk
 refine sB Tryz.func174 Tryz.ntmps174 ?_
 intro hbox htok
 simp only at hbox htok
 apply AL.start
 try (simp)
 repeat (refine sR ?_; simp)
 refine Stop.of_d (hc _ _) ?_
 simp
 try (simp)
 repeat (refine sR ?_; simp)
 refine Stop.of_d (hk _ _) ?_
 simp
 try (simp)
 repeat (refine sR ?_; simp)
 refine sT ?_
 try simp only [AU]
 refine ⟨by simp, sF hbox htok (fun _ h => h) (Nat.le_refl _) ?_⟩
 simp [packA]
theorem tyE_par {t : Ty} (h : tyE t = 0) : ∀ j, j < t.nodes.length → (t.nd j).par < j := by
 unfold tyE at h
 split at h
 ·cases h
 ·split at h
  ·cases h
  ·split at h
   ·cases h
   ·split at h
    ·rename_i h1
     exact absurd h h1
    ·rename_i h1
     exact fun j hj => nodE_par (firstE_allZ _ (Decidable.not_not.1 h1) j hj)
def fitB (t : Ty) (e a b : Int) : Bool :=
 if givE t [a, b] = 0 then (if 0 ≤ e then (if e < t.edges.length then (if isB t a (t.ed e.toNat).fr = true then isB t b (t.ed e.toNat).to else false) else false) else false) else false
theorem givE_in {t : Ty} {l : List Int} (h : givE t l = 0) : tyE t = 0 ∧ ∀ a ∈ l, 0 ≤ a ∧ a < t.nodes.length := by
 unfold givE at h
 split at h
 ·rename_i h1
  split at h
  ·cases h
  ·rename_i h2
   refine ⟨h1, fun a ha => ?_⟩
   simp only [anyB, List.any_eq_true, not_exists, not_and] at h2
   have := h2 a ha
   simpa [insB] using this
 ·rename_i h1
  exact absurd h h1
theorem fits_c4 (t : Ty) (ht : t.Fit) (e a b : Int) (tok : Nat → Bool) (nt : Nat) : DCall Tryz.prog 112 [t.av, I e, I a, I b] tok nt (B (fitB t e a b)) tok nt := by
 intro box nb
 have h1 := given_c t ht [a, b] (by simp)
 have hin := @givE_in t [a, b]
 obtain ⟨N, hN⟩ : ∃ N, fitB t e a b = N := ⟨_, rfl⟩
 rw [hN]
 unfold fitB at hN
 generalize givE t [a, b] = E at *
 refine sB Tryz.func112 Tryz.ntmps112 ?_
 intro hbox htok
 simp only at hbox htok
 apply AL.start
 try (simp)
 repeat (refine sR ?_; simp)
 refine ⟨rfl, ?_⟩
 refine Stop.data ?_
 refine Stop.of_d (h1 _ _) ?_
 simp
 by_cases e1 : E = 0
 ·obtain ⟨htE, hin⟩ := hin e1
  have ha := hin a (by simp)
  have hb := hin b (by simp)
  rw [if_pos e1] at hN
  by_cases e2 : 0 ≤ e
  ·have e2' : ¬ e < 0 := by omega
   rw [if_pos e2] at hN
   by_cases e3 : e < t.edges.length
   ·have e3' : ¬ (t.edges.length : Int) ≤ e := by omega
    rw [if_pos e3] at hN
    obtain ⟨k, rfl⟩ := Int.eq_ofNat_of_zero_le e2
    have hk : k < t.edges.length := by omega
    rw [Int.toNat_natCast, ed_at hk] at hN
    have c1 := is_c t ht a t.edges[k].fr ha.1 ha.2 (tyE_par htE)
    have c2 := is_c t ht b t.edges[k].to hb.1 hb.2 (tyE_par htE)
    try (simp [e1, e2', e3', hk])
    repeat (refine sR ?_; simp [e1, e2', e3', hk])
    refine sC ?_
    simp [e1, e2', e3', hk]
    try (simp [hk])
    repeat (refine sR ?_; simp [hk])
    refine Stop.of_d (c1 _ _) ?_
    simp
    cases f1 : isB t a t.edges[k].fr
    ·rw [f1, if_neg (by simp)] at hN
     try (simp)
     repeat (refine sR ?_; simp)
     refine sT ?_
     try simp only [AU]
     refine ⟨by simp, sF hbox htok (fun _ h => h) (Nat.le_refl _) ?_⟩
     simp [packA, ← hN]
    ·rw [f1, if_pos rfl] at hN
     try (simp [hk])
     repeat (refine sR ?_; simp [hk])
     refine Stop.of_d (c2 _ _) ?_
     simp
     try (simp)
     repeat (refine sR ?_; simp)
     refine sT ?_
     try simp only [AU]
     refine ⟨by simp, sF hbox htok (fun _ h => h) (Nat.le_refl _) ?_⟩
     simp [packA, ← hN]
   ·have e3' : (t.edges.length : Int) ≤ e := by omega
    rw [if_neg e3] at hN
    try (simp [e1, e2', e3'])
    repeat (refine sR ?_; simp [e1, e2', e3'])
    refine sC ?_
    simp [e1, e2', e3']
    try (simp)
    repeat (refine sR ?_; simp)
    refine sT ?_
    try simp only [AU]
    refine ⟨by simp, sF hbox htok (fun _ h => h) (Nat.le_refl _) ?_⟩
    simp [packA, ← hN]
  ·have e2' : e < 0 := by omega
   rw [if_neg e2] at hN
   try (simp [e1, e2'])
   repeat (refine sR ?_; simp [e1, e2'])
   refine sC ?_
   simp [e1, e2']
   try (simp)
   repeat (refine sR ?_; simp)
   refine sT ?_
   try simp only [AU]
   refine ⟨by simp, sF hbox htok (fun _ h => h) (Nat.le_refl _) ?_⟩
   simp [packA, ← hN]
 ·rw [if_neg e1] at hN
  have b1 : (E != 0) = true := by simp [e1]
  try (simp [b1])
  repeat (refine sR ?_; simp [b1])
  refine sC ?_
  simp [b1]
  try (simp)
  repeat (refine sR ?_; simp)
  refine sT ?_
  try simp only [AU]
  refine ⟨by simp, sF hbox htok (fun _ h => h) (Nat.le_refl _) ?_⟩
  simp [packA, ← hN]
end Go.AM
namespace Go.AM
open Go Go.Proofs
end Go.AM
namespace Go.AM
open Go Go.Proofs
def leafB (t : Ty) (k : Int) : Bool := !anyB (fun n => n.par == k) t.nodes
theorem leaf1_c (x : NT) (y : Int) (box : Nat → Option (List (List AV))) (nb k : Nat) (tok : Nat → Bool) (nt : Nat) (h1 : box k = some [[I y]]) :
  ACalls Tryz.prog 171 [x.av, .ptr k 0 0] ⟨box, nb, tok, nt⟩ fun v m => v = B (x.par == y) ∧ m = ⟨box, nb, tok, nt⟩ := by
 refine sB Tryz.func171 Tryz.ntmps171 ?_
 intro hbox htok
 simp only at hbox htok
 apply AL.start
 have k1n := key_lt hbox h1
 try (simp [lb_out k1n, h1])
 repeat (refine sR ?_; simp [lb_out k1n, h1])
 refine sT ?_
 try simp only [AU]
 refine ⟨by simp, sF hbox htok (fun _ h => h) (Nat.le_refl _) ?_⟩
 simp [packA]
theorem leaf_c (t : Ty) (ht : t.nodes.length ≤ 1000000) (k : Int) (tok : Nat → Bool) (nt : Nat) : DCall Tryz.prog 107 [t.av, I k] tok nt (B (leafB t k)) tok nt := by
 intro box nb
 obtain ⟨p, hpp⟩ : ∃ p : NT → Bool, (fun n => n.par == k) = p := ⟨_, rfl⟩
 have h2 := fun y box nb q hbk => leaf1_c y k box nb q tok nt hbk
 have hpy : ∀ y : NT, (y.par == k) = p y := fun y => by rw [← hpp]
 simp only [hpy] at h2
 unfold leafB
 rw [hpp]
 refine sB Tryz.func107 Tryz.ntmps107 ?_
 intro hbox htok
 simp only at hbox htok
 apply AL.start
 try (simp)
 repeat (refine sR ?_; simp)
 refine Stop.of_b (containsFuncN_c t.nodes 171 [.ptr (nb + 3) 0 0] p ht _ _ _ _ (fun c hc => by rw [List.mem_singleton.1 hc]; simp [lb_at]) (fun y hy box' nb' he => h2 y box' nb' _ (he _ _ (by simp [lb_at])))) ?_
 simp
 try (simp)
 repeat (refine sR ?_; simp)
 refine sT ?_
 try simp only [AU]
 refine ⟨by simp, sF hbox htok (fun _ h => h) (Nat.le_refl _) ?_⟩
 simp [packA]
def allP {α : Type} (p : α → Bool) (l : List α) : Bool := l.all p
theorem all_no {α : Type} {p : α → Bool} {l : List α} {i : Nat} (h : i < l.length) (hp : p l[i] = false) : allP p l = false := by
 unfold allP
 rw [← Bool.not_eq_true, List.all_eq_true]
 intro h2
 have := h2 _ (List.getElem_mem h)
 rw [hp] at this
 cases this
theorem all_more {α : Type} {p : α → Bool} {l : List α} {i : Nat} (h : i < l.length) (h1 : allP p (l.take i) = true) (hp : p l[i] = true) : allP p (l.take (i + 1)) = true := by
 unfold allP at *
 rw [List.take_succ_eq_append_getElem h, List.all_append, h1]
 simp [hp]
def lvN (t : Ty) (n : Int) : Bool := if (t.nodes.length : Int) ≤ n then false else leafB t n
def lvE (t : Ty) (g : Gr) (e : E) : Bool := fitB t e.ty (g.nodes.getD e.fr.toNat 0) (g.nodes.getD e.to.toNat 0)
def lvsB (t : Ty) (g : Gr) : Bool := if allP (lvN t) g.nodes = true then allP (lvE t g) g.edges else false
theorem leaves1_c (t : Ty) (ht : t.Fit) (g : Gr) (e : E) (h0 : 0 ≤ e.fr ∧ e.fr < g.nodes.length) (h2 : 0 ≤ e.to ∧ e.to < g.nodes.length) (box : Nat → Option (List (List AV))) (nb k1 k2 : Nat) (tok : Nat → Bool) (nt : Nat) (h1 : box k1 = some [[.d (nts t.nodes), .d (ets t.edges)]]) (h3 : box k2 = some [[.d (ints g.nodes), .d (AM.edges g.edges)]]) :
  ACalls Tryz.prog 172 [.agg [I e.ty, I e.fr, I e.to], .ptr k1 0 0, .ptr k2 0 0] ⟨box, nb, tok, nt⟩ fun v m => v = B (!lvE t g e) ∧ m = ⟨box, nb, tok, nt⟩ := by
 obtain ⟨ty, fr, to'⟩ := e
 simp only at h0 h2
 obtain ⟨a, rfl⟩ := Int.eq_ofNat_of_zero_le h0.1
 obtain ⟨b, rfl⟩ := Int.eq_ofNat_of_zero_le h2.1
 have ha : a < g.nodes.length := by omega
 have hb : b < g.nodes.length := by omega
 have hc := fits_c4 t ht ty g.nodes[a] g.nodes[b]
 have hL : lvE t g ⟨ty, a, b⟩ = fitB t ty g.nodes[a] g.nodes[b] := by simp [lvE, ha, hb]
 rw [hL]
 generalize fitB t ty g.nodes[a] g.nodes[b] = R at *
 refine sB Tryz.func172 Tryz.ntmps172 ?_
 intro hbox htok
 simp only at hbox htok
 apply AL.start
 have k1n := key_lt hbox h1
 have k2n := key_lt hbox h3
 try (simp [lb_out k1n, lb_out k2n, h1, h3, ha, hb])
 repeat (refine sR ?_; simp [lb_out k1n, lb_out k2n, h1, h3, ha, hb])
 refine Stop.of_d (hc _ _) ?_
 simp
 try (simp)
 repeat (refine sR ?_; simp)
 refine sT ?_
 try simp only [AU]
 refine ⟨by simp, sF hbox htok (fun _ h => h) (Nat.le_refl _) ?_⟩
 simp [packA]
def stLv (t : Ty) (g : Gr) (nb : Nat) (box : Nat → Option (List (List AV))) (tok : Nat → Bool) (nt : Nat) (i : Nat) : AState :=
 ⟨tl [(10, I i), (9, I g.nodes.length), (8, .d (ints g.nodes)), (3, .ptr (nb + 3) 0 0), (2, .ptr (nb + 2) 0 0)], lb nb box [(3, [[.d (ints g.nodes), .d (AM.edges g.edges)]]), (2, [[.d (nts t.nodes), .d (ets t.edges)]])], tok, nt⟩
theorem leaves_c (t : Ty) (ht : t.Fit) (g : Gr) (hg : g.Fit) (hv : ∀ e ∈ g.edges, 0 ≤ e.fr ∧ e.fr < g.nodes.length ∧ 0 ≤ e.to ∧ e.to < g.nodes.length) (tok : Nat → Bool) (nt : Nat) : DCall Tryz.prog 108 [t.av, g.av] tok nt (B (lvsB t g)) tok nt := by
 intro box nb
 have hgn := hg.n
 have hge := hg.e
 have htn := ht.n
 obtain ⟨N, hN⟩ : ∃ N, lvsB t g = N := ⟨_, rfl⟩
 rw [hN]
 unfold lvsB at hN
 refine sB Tryz.func108 Tryz.ntmps108 ?_
 intro hbox htok
 simp only at hbox htok
 apply AL.start
 try (simp)
 repeat (refine sR ?_; simp)
 refine sN ?_
 refine AL.loopT (stLv t g nb box tok nt) (fun i => i ≤ g.nodes.length ∧ allP (lvN t) (g.nodes.take i) = true) (fun i => g.nodes.length - i) 0 ⟨Nat.zero_le _, by simp [allP]⟩ (Weaks.mk (Nat.le_refl _) rfl (by simp [ToL, lk, lb_at]) (by simp [BoxL, lk])) ?_
 rintro i S' ⟨hi, hok⟩ hS
 simp only [stLv] at hS
 subst hS
 have hw := sW (i := i) (by omega)
 try (simp)
 repeat (refine sR ?_; simp)
 refine sC ?_
 simp
 refine ⟨fun hlt => ?_, fun hge => ?_⟩
 ·have hno := fun h => all_no (p := lvN t) hlt h
  have hyes := fun h => all_more (p := lvN t) hlt hok h
  have hl : lvN t g.nodes[i] = if (t.nodes.length : Int) ≤ g.nodes[i] then false else leafB t g.nodes[i] := rfl
  have hc := leaf_c t (by omega) g.nodes[i]
  by_cases e1 : (t.nodes.length : Int) ≤ g.nodes[i]
  ·rw [if_pos e1] at hl
   rw [hno hl, if_neg (by simp)] at hN
   try (simp [hlt, e1])
   repeat (refine sR ?_; simp [hlt, e1])
   refine sC ?_
   simp [e1]
   try (simp)
   repeat (refine sR ?_; simp)
   refine sT ?_
   try simp only [AU]
   refine ⟨by simp, sF hbox htok (fun _ h => h) (Nat.le_refl _) ?_⟩
   simp [packA, ← hN]
  ·rw [if_neg e1] at hl
   try (simp [hlt, e1])
   repeat (refine sR ?_; simp [hlt, e1])
   refine Stop.of_d (hc _ _) ?_
   simp
   cases e2 : leafB t g.nodes[i]
   ·rw [e2] at hl
    rw [hno hl, if_neg (by simp)] at hN
    try (simp)
    repeat (refine sR ?_; simp)
    refine sC ?_
    simp
    try (simp)
    repeat (refine sR ?_; simp)
    refine sT ?_
    try simp only [AU]
    refine ⟨by simp, sF hbox htok (fun _ h => h) (Nat.le_refl _) ?_⟩
    simp [packA, ← hN]
   ·rw [e2] at hl
    try (simp)
    repeat (refine sR ?_; simp)
    refine sC ?_
    simp
    try (simp [hw])
    repeat (refine sR ?_; simp [hw])
    refine sE ?_
    exact ⟨i + 1, ⟨hlt, hyes hl⟩, by omega, Weaks.mk (Nat.le_refl _) rfl (by simp [ToL, lk, lb_at]) (by simp [BoxL, lk])⟩
 ·refine sX ?_
  simp only [AU, ↓reduceIte]
  have : i = g.nodes.length := by omega
  subst this
  rw [List.take_length] at hok
  rw [if_pos hok] at hN
  obtain ⟨p, hpp⟩ : ∃ p : E → Bool, (fun e => !lvE t g e) = p := ⟨_, rfl⟩
  have h2 := fun y (hy : y ∈ g.edges) box nb k1 k2 hk1 hk2 => leaves1_c t ht g y ⟨(hv y hy).1, (hv y hy).2.1⟩ ⟨(hv y hy).2.2.1, (hv y hy).2.2.2⟩ box nb k1 k2 tok nt hk1 hk2
  have hpy : ∀ y : E, (!lvE t g y) = p y := fun y => by rw [← hpp]
  simp only [hpy] at h2
  have hN2 : (!anyB p g.edges) = N := by
   rw [← hN, ← hpp, allP, anyB, List.any_eq_not_all_not, Bool.not_not]
   simp
  try (simp)
  repeat (refine sR ?_; simp)
  have hcap : ∀ c ∈ [AV.ptr (nb + 2) 0 0, AV.ptr (nb + 3) 0 0], OkIn (fun k => (lb nb box [(3, [[.d (ints g.nodes), .d (AM.edges g.edges)]]), (2, [[.d (nts t.nodes), .d (ets t.edges)]])]) k ≠ none) (fun _ => True) c := by
   intro c hc
   simp only [List.mem_cons, List.not_mem_nil, or_false] at hc
   rcases hc with h | h
   ·rw [h]; simp [lb_at]
   ·rw [h]; simp [lb_at]
  refine Stop.of_b (containsFuncE_c g.edges 172 [.ptr (nb + 2) 0 0, .ptr (nb + 3) 0 0] p hg.e _ _ _ _ hcap (fun y hy box' nb' he => h2 y hy box' nb' _ _ (he _ _ (by simp [lb_at])) (he _ _ (by simp [lb_at])))) ?_
  simp
  try (simp)
  repeat (refine sR ?_; simp)
  refine sT ?_
  try simp only [AU]
  refine ⟨by simp, sF hbox htok (fun _ h => h) (Nat.le_refl _) ?_⟩
  simp [packA, ← hN2]
end Go.AM
namespace Go.AM
open Go Go.Proofs
def tpA (t : Ty) (i : Nat) : Int := if (t.nd i).abs = true then 0 else if leafB t i = true then 0 else 13
def tpB (t : Ty) (r : Ru) : Int :=
 if firstE (tpA t) t.nodes.length ≠ 0 then 13 else if lvsB t r.lg = false then 13 else if lvsB t r.rg = false then 13 else 0
def tpdE (t : Ty) (r : Ru) : Int := if tyE t ≠ 0 then tyE t else if strR r ≠ 0 then strR r else tpB t r
theorem strR_valid {r : Ru} (h : strR r = 0) : validG r.lg = 0 ∧ validG r.rg = 0 := (strR_zero h).2
def stTp (t : Ty) (r : Ru) (nb : Nat) (box : Nat → Option (List (List AV))) (tok : Nat → Bool) (nt : Nat) (i : Nat) : AState :=
 ⟨tl [(26, I i), (25, I t.nodes.length), (24, .d (nts t.nodes)), (3, .ptr (nb + 3) 0 0), (2, .ptr (nb + 2) 0 0)], lb nb box [(3, [r.row]), (2, [[.d (nts t.nodes), .d (ets t.edges)]])], tok, nt⟩
theorem typed_c (t : Ty) (ht : t.Fit) (r : Ru) (hr : r.Fit) (tok : Nat → Bool) (nt : Nat) : DCall Tryz.prog 53 [t.av, r.av] tok nt (I (tpdE t r)) tok nt := by
 intro box nb
 have htn := ht.n
 have h1 := valid_c4 t ht ht.hM
 have h2 := structural_c r hr
 have hv := @strR_valid r
 obtain ⟨N, hN⟩ : ∃ N, tpdE t r = N := ⟨_, rfl⟩
 rw [hN]
 unfold tpdE at hN
 generalize tyE t = E at *
 generalize tyN t = Z at *
 generalize strR r = S at *
 refine sB Tryz.func53 Tryz.ntmps53 ?_
 intro hbox htok
 simp only at hbox htok
 apply AL.start
 try (simp)
 repeat (refine sR ?_; simp)
 refine Stop.of_d (h1 _ _) ?_
 simp
 try (simp)
 repeat (refine sR ?_; simp)
 by_cases e1 : E = 0
 ·rw [if_neg (by simp [e1])] at hN
  refine sC ?_
  simp [e1]
  try (simp)
  repeat (refine sR ?_; simp)
  refine Stop.of_d (h2 _ _) ?_
  simp
  try (simp)
  repeat (refine sR ?_; simp)
  by_cases e2 : S = 0
  ·rw [if_neg (by simp [e2])] at hN
   obtain ⟨v1, v2⟩ := hv e2
   have l1 := leaves_c t ht r.lg hr.lg (validG_edges v1)
   have l2 := leaves_c t ht r.rg hr.rg (validG_edges v2)
   unfold tpB at hN
   refine sC ?_
   simp [e2]
   try (simp)
   repeat (refine sR ?_; simp)
   refine sN ?_
   refine AL.loopT (stTp t r nb box tok nt) (fun i => i ≤ t.nodes.length ∧ firstE (tpA t) i = 0) (fun i => t.nodes.length - i) 0 ⟨Nat.zero_le _, rfl⟩ (Weaks.mk (Nat.le_refl _) rfl (by simp [ToL, lk, lb_at]) (by simp [BoxL, lk])) ?_
   rintro i S' ⟨hi, hok⟩ hS
   simp only [stTp] at hS
   subst hS
   have hw := sW (i := i) (by omega)
   try (simp)
   repeat (refine sR ?_; simp)
   refine sC ?_
   simp
   refine ⟨fun hlt => ?_, fun hge => ?_⟩
   ·have hR : tpA t i ≠ 0 → firstE (tpA t) t.nodes.length = tpA t i := fun h0 => firstE_stop hok h0 _ hlt
    have hnx : tpA t i = 0 → firstE (tpA t) (i + 1) = 0 := fun h0 => by simp only [firstE, hok, h0, ↓reduceIte]
    have hd : tpA t i = if t.nodes[i].abs = true then 0 else if leafB t i = true then 0 else 13 := by rw [tpA, nd_at hlt]
    have hc := leaf_c t (by omega) i
    cases e3 : t.nodes[i].abs
    ·rw [e3, if_neg (by simp)] at hd
     try (simp [hlt, e3])
     repeat (refine sR ?_; simp [hlt, e3])
     refine Stop.of_d (hc _ _) ?_
     simp
     cases e4 : leafB t i
     ·rw [e4, if_neg (by simp)] at hd
      rw [hR (by rw [hd]; decide), if_pos (by rw [hd]; decide)] at hN
      try (simp)
      repeat (refine sR ?_; simp)
      refine sC ?_
      simp
      try (simp)
      repeat (refine sR ?_; simp)
      refine sT ?_
      try simp only [AU]
      refine ⟨by simp, sF hbox htok (fun _ h => h) (Nat.le_refl _) ?_⟩
      simp [packA, ← hN]
     ·rw [e4, if_pos rfl] at hd
      try (simp)
      repeat (refine sR ?_; simp)
      refine sC ?_
      simp
      try (simp [hw])
      repeat (refine sR ?_; simp [hw])
      refine sE ?_
      exact ⟨i + 1, ⟨hlt, hnx hd⟩, by omega, Weaks.mk (Nat.le_refl _) rfl (by simp [ToL, lk, lb_at]) (by simp [BoxL, lk])⟩
    ·rw [e3, if_pos rfl] at hd
     try (simp [hlt, e3])
     repeat (refine sR ?_; simp [hlt, e3])
     refine sC ?_
     simp [e3]
     try (simp [hw])
     repeat (refine sR ?_; simp [hw])
     refine sE ?_
     exact ⟨i + 1, ⟨hlt, hnx hd⟩, by omega, Weaks.mk (Nat.le_refl _) rfl (by simp [ToL, lk, lb_at]) (by simp [BoxL, lk])⟩
   ·refine sX ?_
    simp only [AU, ↓reduceIte]
    have : i = t.nodes.length := by omega
    subst this
    rw [if_neg (by simp [hok])] at hN
    try (simp)
    repeat (refine sR ?_; simp)
    refine Stop.of_d (l1 _ _) ?_
    simp
    cases e3 : lvsB t r.lg
    ·rw [e3, if_pos rfl] at hN
     try (simp)
     repeat (refine sR ?_; simp)
     refine sC ?_
     simp
     try (simp)
     repeat (refine sR ?_; simp)
     refine sT ?_
     try simp only [AU]
     refine ⟨by simp, sF hbox htok (fun _ h => h) (Nat.le_refl _) ?_⟩
     simp [packA, ← hN]
    ·rw [e3, if_neg (by simp)] at hN
     try (simp)
     repeat (refine sR ?_; simp)
     refine Stop.of_d (l2 _ _) ?_
     simp
     cases e4 : lvsB t r.rg
     ·rw [e4, if_pos rfl] at hN
      try (simp)
      repeat (refine sR ?_; simp)
      refine sC ?_
      simp
      try (simp)
      repeat (refine sR ?_; simp)
      refine sT ?_
      try simp only [AU]
      refine ⟨by simp, sF hbox htok (fun _ h => h) (Nat.le_refl _) ?_⟩
      simp [packA, ← hN]
     ·rw [e4, if_neg (by simp)] at hN
      try (simp)
      repeat (refine sR ?_; simp)
      refine sC ?_
      simp
      try (simp)
      repeat (refine sR ?_; simp)
      refine sT ?_
      try simp only [AU]
      refine ⟨by simp, sF hbox htok (fun _ h => h) (Nat.le_refl _) ?_⟩
      simp [packA, ← hN]
  ·rw [if_pos e2] at hN
   have b2 : (S != 0) = true := by simp [e2]
   refine sC ?_
   simp [b2]
   try (simp)
   repeat (refine sR ?_; simp)
   refine sT ?_
   try simp only [AU]
   refine ⟨by simp, sF hbox htok (fun _ h => h) (Nat.le_refl _) ?_⟩
   simp [packA, ← hN]
 ·rw [if_pos e1] at hN
  have b1 : (E != 0) = true := by simp [e1]
  refine sC ?_
  simp [b1]
  try (simp)
  repeat (refine sR ?_; simp)
  refine sT ?_
  try simp only [AU]
  refine ⟨by simp, sF hbox htok (fun _ h => h) (Nat.le_refl _) ?_⟩
  simp [packA, ← hN]
end Go.AM
namespace Go.AM
open Go
variable {P : Program}
theorem upon_exits {o : Oper} {a : Act} {next : Act → World → Prop} {Q Q' : Exit → Act → World → Prop} (h : ∀ e a w, e ≠ .normal → Q e a w → Q' e a w) (r : Result Next) (hh : o.upon P a next Q r) : o.upon P a next Q' r := by
 have hl : LetsOut Q → LetsOut Q' := fun ⟨a, w, h1⟩ => ⟨a, w, h _ _ _ (by simp) h1⟩
 cases r with
 | ok n w' =>
  cases n <;> simp only [Oper.upon] at hh ⊢ <;>
   first
    | exact hh
    | exact Calls.mono hh (fun e w'' he => by
      cases e
      ·exact he
      ·exact h _ _ _ (by simp) he
      ·exact hl he)
 | halt x w' => cases x <;> simp only [Oper.upon] at hh ⊢ <;> first | exact h _ _ _ (by simp) hh | exact hh
theorem wpOp_exits {ops : Array Oper} {i : Nat} {K : Act → World → Prop} {Q Q' : Exit → Act → World → Prop} {a : Act} {w : World} (h : ∀ e a w, e ≠ .normal → Q e a w → Q' e a w) (hh : wpOp P ops Q i K a w) : wpOp P ops Q' i K a w := by
 have hl : LetsOut Q → LetsOut Q' := fun ⟨a, w, h1⟩ => ⟨a, w, h _ _ _ (by simp) h1⟩
 unfold wpOp at *
 split
 ·rename_i ho
  simpa only [ho] using hh
 ·rename_i o ho
  simp only [ho] at hh
  split
  ·rename_i hw
   rw [if_pos hw] at hh
   exact hh.imp (upon_exits h _) fun ⟨h1, h2⟩ => ⟨h1, hl h2⟩
  ·rename_i hw
   rw [if_neg hw] at hh
   exact hh
def tiedAll (L : Array Oper) (m : Nat) : Bool := (List.range m).all fun j => (List.range (m + 1)).any fun i => decide (j < i) && (match L[i]? with | some x => (direct x).contains j | none => false)
def downOk (L : Array Oper) : Bool := (List.range L.size).all fun i => match L[i]? with | some o => (direct o).all fun j => decide (j < i) | none => true
theorem tiedAll_spec {L : Array Oper} {m : Nat} (h : tiedAll L m = true) {j : Nat} (hj : j < m) : ∃ i x, j < i ∧ i ≤ m ∧ L[i]? = some x ∧ j ∈ direct x := by
 unfold tiedAll at h
 have h1 := List.all_eq_true.1 h j (by simpa using hj)
 obtain ⟨i, hi, h2⟩ := List.any_eq_true.1 h1
 simp only [Bool.and_eq_true, decide_eq_true_eq] at h2
 obtain ⟨h2, h3⟩ := h2
 split at h3
 ·rename_i x hx
  exact ⟨i, x, h2, by simp at hi; omega, hx, by simpa using h3⟩
 ·cases h3
theorem downOk_spec {L : Array Oper} (h : downOk L = true) {i : Nat} {o : Oper} (ho : L[i]? = some o) : ∀ j ∈ direct o, j < i := by
 unfold downOk at h
 have hi := (Array.getElem?_eq_some_iff.1 ho).1
 have h1 := List.all_eq_true.1 h i (by simpa using hi)
 rw [ho] at h1
 intro j hj
 simpa using List.all_eq_true.1 h1 j hj
theorem ready_mem {L : Array Oper} {listed : Array Bool} {i : Nat} : i ∈ Region.ready .any L listed ↔ i < L.size ∧ listed.getD i true = false ∧ ∃ o, L[i]? = some o ∧ ∀ j ∈ direct o, listed.getD j false = true := by
 unfold Region.ready
 rw [List.mem_filter]
 simp only [List.mem_range, Bool.and_eq_true, Bool.not_eq_true']
 constructor
 ·rintro ⟨h1, h2, h3⟩
  refine ⟨h1, h2, L[i], by simp [h1], ?_⟩
  simp only [h1, Array.getElem?_eq_getElem, Option.map_some, Option.getD_some, Array.all_eq_true'] at h3
  intro j hj
  unfold direct at hj
  obtain ⟨e, he, rfl⟩ := List.mem_map.1 hj
  obtain ⟨he1, he2⟩ := List.mem_filter.1 he
  have := h3 e (by simpa using he1)
  simpa [he2] using this
 ·rintro ⟨h1, h2, o, h3, h4⟩
  refine ⟨h1, h2, ?_⟩
  rw [h3]
  simp only [Option.map_some, Option.getD_some, Array.all_eq_true']
  intro e he
  by_cases hb : Region.binds .any e = true
  ·have := h4 e.on (by unfold direct; exact List.mem_map.2 ⟨e, List.mem_filter.2 ⟨by simpa using he, hb⟩, rfl⟩)
   simp [this]
  ·simp [hb]
theorem getD_some {l : Array Bool} {i : Nat} {d v : Bool} (h : l[i]? = some v) : l.getD i d = v := by simp [Array.getD_eq_getD_getElem?, h]
def guardOk (ops : Array Oper) : Bool := ops.all fun o => match o.guard with | some (j, _) => decide (j < ops.size) | none => true
theorem of_getD {l : Array Bool} {i : Nat} (h : l.getD i false = true) : l[i]? = some true := by
 rw [Array.getD_eq_getD_getElem?] at h
 cases e : l[i]? with
 | none => rw [e] at h; cases h
 | some v => rw [e] at h; simp at h; rw [h]
theorem wpAny_split {ops : Array Oper} {o : Oper} {Q Qm : Exit → Act → World → Prop} (hdown : downOk (ops.push o) = true) (htied : tiedAll (ops.push o) ops.size = true) (hgo : guardOk ops = true) (hg : o.guard = none)
  (hq : ∀ e a w, e ≠ .normal → Qm e a w → Q e a w) (hn : ∀ a w, Qm .normal a w → o.wp P a w (Q .normal) Q ∨ (o.asks P a w ∧ LetsOut Q)) :
  ∀ (fuel : Nat) (listed l' : Array Bool), listed.size = ops.size + 1 → l'.size = ops.size → (∀ i, i < ops.size → l'[i]? = listed[i]?) → listed[ops.size]? = some false →
   (∀ i x, (ops.push o)[i]? = some x → listed.getD i false = true → ∀ j ∈ direct x, listed.getD j false = true) →
   ∀ a w, wpAny P .any ops Qm fuel l' a w → wpAny P .any (ops.push o) Q (fuel + 1) listed a w := by
 have hsL : (ops.push o).size = ops.size + 1 := Array.size_push _
 have hat : ∀ i, i < ops.size → (ops.push o)[i]? = ops[i]? := fun i hi => by rw [Array.getElem?_push, if_neg (by omega)]
 have hlast : (ops.push o)[ops.size]? = some o := by rw [Array.getElem?_push, if_pos rfl]
 have fin : ∀ (listed : Array Bool), listed.size = ops.size + 1 → (∀ i, i < ops.size → listed[i]? = some true) → listed[ops.size]? = some false → ∀ a w, Qm .normal a w → ∀ n, wpAny P .any (ops.push o) Q (n + 1) listed a w := by
  intro listed hsz hall hls a w hQ n
  have hm : ops.size ∈ Region.ready .any (ops.push o) listed := ready_mem.2 ⟨by omega, getD_some hls, o, hlast, fun j hj => getD_some (hall j (downOk_spec hdown hlast j hj))⟩
  refine ⟨fun h0 => absurd hm (by rw [h0]; simp), fun i hi => ?_⟩
  have him : i = ops.size := by
   obtain ⟨h1, h2, _⟩ := ready_mem.1 hi
   rcases Nat.lt_or_ge i ops.size with h | h
   ·rw [getD_some (hall i h)] at h2; cases h2
   ·omega
  subst him
  have hall2 : Region.ready .any (ops.push o) (listed.setIfInBounds ops.size true) = [] := by
   rw [List.eq_nil_iff_forall_not_mem]
   intro i hi
   obtain ⟨h1, h2, _⟩ := ready_mem.1 hi
   have : (listed.setIfInBounds ops.size true)[i]? = some true := by
    rw [Array.getElem?_setIfInBounds]
    by_cases e : ops.size = i
    ·rw [if_pos e, if_pos (by omega)]
    ·rw [if_neg e]; exact hall i (by omega)
   rw [getD_some this] at h2
   cases h2
  have hK : ∀ a w, Q .normal a w → wpAny P .any (ops.push o) Q n (listed.setIfInBounds ops.size true) a w := by
   intro a w hq
   cases n with
   | zero => exact ⟨hall2, hq⟩
   | succ n => exact ⟨fun _ => hq, fun i hi => by rw [hall2] at hi; cases hi⟩
  unfold wpOp
  rw [hlast]
  simp only
  rw [if_pos (by simp [Region.wanted, hg])]
  exact (hn a w hQ).imp (Oper.wp_mono hK) id
 intro fuel
 induction fuel with
 | zero =>
  intro listed l' hsz hsz' hll hls hcl a w h
  obtain ⟨h1, h2⟩ := h
  refine fin listed hsz ?_ hls a w h2 0
  have hC : ∀ n i, i < n → i < ops.size → listed[i]? = some true := by
   intro n
   induction n with
   | zero => intro i hi; omega
   | succ n ihn =>
    intro i hi him
    cases e : listed[i]? with
    | none => rw [Array.getElem?_eq_none_iff] at e; omega
    | some v =>
     cases v with
     | true => rfl
     | false =>
      exfalso
      have : i ∈ Region.ready .any ops l' := ready_mem.2 ⟨him, getD_some ((hll i him).trans e), ops[i], by simp [him], fun j hj => by
       have hji := downOk_spec hdown (by rw [hat i him]; simp [him]) j hj
       exact getD_some ((hll j (by omega)).trans (ihn j (by omega) (by omega)))⟩
      rw [h1] at this
      cases this
  exact fun i hi => hC (i + 1) i (Nat.lt_succ_self _) hi
 | succ k ih =>
  intro listed l' hsz hsz' hll hls hcl a w h
  obtain ⟨h1, h2⟩ := h
  have hval : ∀ i, i < ops.size → listed[i]? = some true ∨ listed[i]? = some false := fun i hi => by
   cases e : listed[i]? with
   | none => rw [Array.getElem?_eq_none_iff] at e; omega
   | some v => cases v <;> simp
  have hrd : ∀ i, i < ops.size → (i ∈ Region.ready .any (ops.push o) listed ↔ i ∈ Region.ready .any ops l') := by
   intro i hi
   have hd : ∀ x, ops[i]? = some x → ((∀ j ∈ direct x, listed.getD j false = true) ↔ ∀ j ∈ direct x, l'.getD j false = true) := fun x hx => by
    have hj := downOk_spec hdown ((hat i hi).trans hx)
    constructor
    ·exact fun h j hj' => getD_some ((hll j (by have := hj j hj'; omega)).trans (of_getD (h j hj')))
    ·exact fun h j hj' => getD_some ((hll j (by have := hj j hj'; omega)).symm.trans (of_getD (h j hj')))
   rw [ready_mem, ready_mem, hat i hi]
   have hg2 : listed.getD i true = l'.getD i true := by rw [Array.getD_eq_getD_getElem?, Array.getD_eq_getD_getElem?, hll i hi]
   constructor
   ·rintro ⟨_, g2, x, g3, g4⟩
    exact ⟨hi, hg2 ▸ g2, x, g3, (hd x g3).1 g4⟩
   ·rintro ⟨_, g2, x, g3, g4⟩
    exact ⟨by omega, hg2.symm ▸ g2, x, g3, (hd x g3).2 g4⟩
  by_cases hall : ∀ i, i < ops.size → listed[i]? = some true
  ·refine fin listed hsz hall hls a w (h1 ?_) (k + 1)
   rw [List.eq_nil_iff_forall_not_mem]
   intro i hi
   obtain ⟨g1, g2, _⟩ := ready_mem.1 hi
   rw [getD_some ((hll i g1).trans (hall i g1))] at g2
   cases g2
  ·have hnm : ops.size ∉ Region.ready .any (ops.push o) listed := by
    intro hm
    refine hall ?_
    obtain ⟨_, _, x, hx, hx2⟩ := ready_mem.1 hm
    rw [hlast] at hx
    cases hx
    have hD : ∀ n j, ops.size - j ≤ n → j < ops.size → listed[j]? = some true := by
     intro n
     induction n with
     | zero => intro j h; omega
     | succ n ihn =>
      intro j hj hjm
      obtain ⟨i, x, hji, him, hx, hjx⟩ := tiedAll_spec htied hjm
      by_cases e : i = ops.size
      ·subst e
       rw [hlast] at hx
       cases hx
       exact of_getD (hx2 j hjx)
      ·exact of_getD (hcl i x hx (getD_some (ihn i (by omega) (by omega))) j hjx)
    exact fun i hi => hD _ i (Nat.le_refl _) hi
   refine ⟨fun h0 => ?_, fun i hi => ?_⟩
   ·exfalso
    refine hall ?_
    have hC : ∀ n i, i < n → i < ops.size → listed[i]? = some true := by
     intro n
     induction n with
     | zero => intro i hi; omega
     | succ n ihn =>
      intro i hi him
      rcases hval i him with e | e
      ·exact e
      ·exfalso
       have : i ∈ Region.ready .any (ops.push o) listed := ready_mem.2 ⟨by omega, getD_some e, ops[i], by rw [hat i him]; simp [him], fun j hj => by
        have hji := downOk_spec hdown (by rw [hat i him]; simp [him]) j hj
        exact getD_some (ihn j (by omega) (by omega))⟩
       rw [h0] at this
       cases this
    exact fun i hi => hC (i + 1) i (Nat.lt_succ_self _) hi
   ·have him : i < ops.size := by
     obtain ⟨g1, _⟩ := ready_mem.1 hi
     rcases Nat.lt_or_ge i ops.size with h | h
     ·exact h
     ·exfalso
      have : i = ops.size := by omega
      subst this
      exact hnm hi
    have h3 := wpOp_exits hq (h2 i ((hrd i him).1 hi))
    obtain ⟨_, g2, x, g3, g4⟩ := ready_mem.1 hi
    have hx : ops[i]? = some x := (hat i him).symm.trans g3
    have hIH : ∀ a w, wpAny P .any ops Qm k (l'.setIfInBounds i true) a w → wpAny P .any (ops.push o) Q (k + 1) (listed.setIfInBounds i true) a w := by
     intro a w hh
     refine ih _ _ (by simpa using hsz) (by simpa using hsz') ?_ ?_ ?_ a w hh
     ·intro j hj
      rw [Array.getElem?_setIfInBounds, Array.getElem?_setIfInBounds]
      by_cases e : i = j
      ·rw [if_pos e, if_pos e, if_pos (by omega), if_pos (by omega)]
      ·rw [if_neg e, if_neg e]; exact hll j hj
     ·rw [Array.getElem?_setIfInBounds, if_neg (by omega)]; exact hls
     ·intro i2 y hy hl2 j hj
      have hset : ∀ q, (listed.setIfInBounds i true)[q]? = some true ↔ (q = i ∨ listed[q]? = some true) := by
       intro q
       rw [Array.getElem?_setIfInBounds]
       by_cases e : i = q
       ·rw [if_pos e, if_pos (by omega)]; simp [e]
       ·rw [if_neg e]
        constructor
        ·exact .inr
        ·rintro (h | h)
         ·exact absurd h.symm e
         ·exact h
      refine getD_some ((hset j).2 ?_)
      rcases (hset i2).1 (of_getD hl2) with e | e
      ·subst e
       rw [g3] at hy
       cases hy
       exact .inr (of_getD (g4 j hj))
      ·exact .inr (of_getD (hcl i2 y hy (getD_some e) j hj))
    unfold wpOp at h3 ⊢
    rw [hx] at h3
    rw [g3]
    simp only at h3 ⊢
    have hwan : Region.wanted x (yielded (ops.push o) a.tmps) = Region.wanted x (yielded ops a.tmps) := by
     unfold Region.wanted
     cases hgx : x.guard with
     | none => rfl
     | some jw =>
      obtain ⟨j, want⟩ := jw
      have hj : j < ops.size := by
       unfold guardOk at hgo
       have := Array.all_eq_true'.1 hgo x (Array.mem_of_getElem? hx)
       rw [hgx] at this
       simpa using this
      simp only [yielded, hat j hj]
    rw [hwan]
    split
    ·rename_i hw
     rw [if_pos hw] at h3
     exact h3.imp (Oper.wp_mono hIH) id
    ·rename_i hw
     rw [if_neg hw] at h3
     exact hIH _ _ h3
def splitOk (n : Nat) (ops : Array Oper) (o : Oper) : Bool := regionOk n ops true && (regionOk n #[o] false && (downOk (ops.push o) && (tiedAll (ops.push o) ops.size && (guardOk ops && o.guard.isNone))))
theorem AL.split {cx : Cx} {nt0 : Nat} {K : Exit → AState → Prop} {r : List CI} {S : AState} {id : Nat} {L ops : Array Oper} {o : Oper} (hL : L = ops.push o) (hf : P.follows .mixedOrders = true) (hnb : cx.base + cx.n ≤ cx.nb) (hok : splitOk cx.n ops o = true)
  (h : FReg P cx ops true (fun S' => FReg P cx #[o] false (AL P cx nt0 K r) S') S) : AL P cx nt0 K (.c (.region id L true) :: r) S := by
 subst hL
 unfold splitOk at hok
 simp only [Bool.and_eq_true, regionOk, Bool.or_eq_true, Bool.not_eq_true', Option.isNone_iff_eq_none] at hok
 obtain ⟨⟨⟨hal, hdst⟩, hreg⟩, ⟨⟨hal1, hdst1⟩, _⟩, hdown, htied, hgo, hgn⟩ := hok
 have hreg' : regOk ops = true := by simpa using hreg
 have h := fReg_sound h
 simp only [AL]
 intro G0 w0 he hn G a w hr hl
 have hd := dstOk_spec hdst
 obtain ⟨b, hb, hr1, hp, hkeep⟩ := preB_sound hnb ops.toList S.box (S := S) hr (fun o ho d hod => hd o d (by simpa using ho) hod) (allocOk_nodup hal) h
 have hl1 : LeC cx G0 w0 G w { S with box := b } := ⟨hl.1, fun k hk hg => by
  rw [← hl.2 k hk hg]
  refine hkeep k fun hm => ?_
  obtain ⟨o, ho, he⟩ := List.mem_filterMap.1 hm
  split at he
  ·rename_i T s h1 h2
   simp only [Option.some.injEq] at he
   subst he
   exact absurd hk (by simp)
  ·cases he⟩
 simp only at hb
 obtain ⟨S', hrun, hK⟩ := hb
 refine wp_region_any hf ?_
 have hrd : RelS cx.n cx.nb G { S with box := b } a w.drew := hr1.drew
 have hld : LeC cx G0 w0 G w.drew { S with box := b } := hl1.step ⟨Le.drew, fun k _ hg => ⟨hg, rfl⟩⟩
 rw [Array.size_push]
 refine wpAny_split (Qm := fun e a' w' => match e with
  | .normal => o.wp P a' w' (fun a w => ∃ S' G', AL P cx nt0 K r S' ∧ RelS cx.n cx.nb G' S' a w ∧ LeC cx G0 w0 G' w S') (fun e a' w' => ∃ S' G', (match e with | .normal => AL P cx nt0 K r S' | e => AU P cx nt0 K r e S') ∧ RelS cx.n cx.nb G' S' a' w' ∧ LeC cx G0 w0 G' w' S') ∨ (o.asks P a' w' ∧ LetsOut (fun e a' w' => ∃ S' G', (match e with | .normal => AL P cx nt0 K r S' | e => AU P cx nt0 K r e S') ∧ RelS cx.n cx.nb G' S' a' w' ∧ LeC cx G0 w0 G' w' S'))
  | e => False) hdown htied hgo hgn (fun e a w hne hh => by cases e <;> first | exact absurd rfl hne | exact hh.elim) (fun a w hh => ?_) ops.size _ (Array.replicate ops.size false) (by simp) (by simp) (fun i hi => by simp [Array.getElem?_replicate, hi]; omega) (by simp [Array.getElem?_replicate]) ?_ a w.drew ?_
 ·exact hh
 ·intro i x hx hl2
  have := of_getD hl2
  rw [Array.getElem?_replicate] at this
  split at this
  ·cases this
  ·cases this
 ·refine any_sound (n := cx.n) (nb := cx.nb) (base := cx.base) (Sf := S') (G0 := G) (w0 := w.drew) (b0 := b) hreg' hal hdst hnb (fun a' w' G' h1 h2 => ?_) ops.size (Array.replicate ops.size false) (List.range ops.size) { S with box := b } a w.drew G (by simp) ?_ (by simp) ?_ (IRun.of_all hrun) hrd ?_ (LeK.refl _ _ _ _)
  ·have hl2 := hld.step h2
   have hK2 := fReg_sound hK
   obtain ⟨b2, hb2, hr2, hp2, hkeep2⟩ := preB_sound hnb (#[o] : Array Oper).toList S'.box (S := S') h1 (fun o ho d hod => dstOk_spec hdst1 o d (by simpa using ho) hod) (allocOk_nodup hal1) hK2
   have hl3 : LeC cx G0 w0 G' w' { S' with box := b2 } := ⟨hl2.1, fun k hk hg => by
    rw [← hl2.2 k hk hg]
    refine hkeep2 k fun hm => ?_
    obtain ⟨o, ho, he⟩ := List.mem_filterMap.1 hm
    split at he
    ·rename_i T s h1 h2
     simp only [Option.some.injEq] at he
     subst he
     exact absurd hk (by simp)
    ·cases he⟩
   simp only at hb2
   have hfin := aops_sound (cx := cx) (ops := #[o]) (Q := fun e a' w' => ∃ S' G', (match e with | .normal => AL P cx nt0 K r S' | e => AU P cx nt0 K r e S') ∧ RelS cx.n cx.nb G' S' a' w' ∧ LeC cx G0 w0 G' w' S') (K := AL P cx nt0 K r) (G0 := G0) (w0 := w0) (fun o d ho hod => dstOk_spec hdst1 o d ho hod) hnb hal1 (fun S' a' w' G' h1 h2 h3 => ⟨S', G', h1, h2, h3⟩) (#[o] : Array Oper).toList 0 { S' with box := b2 } a' w' G' (by simp) hp2 hr2 hl3 hb2
   rw [show (#[o] : Array Oper).toList.length = 1 from rfl, show List.range' 0 1 = [0] from rfl, wpOps_cons] at hfin
   unfold wpOp at hfin
   rw [show (#[o] : Array Oper)[0]? = some o from rfl] at hfin
   simp only at hfin
   rw [if_pos (by simp [Region.wanted, hgn])] at hfin
   exact hfin
  ·rw [List.filter_eq_self.2]
   intro i hi
   simp at hi
   simp [Array.getD, hi]
  ·intro i o ho hlst
   have hi := (Array.getElem?_eq_some_iff.1 ho).1
   simp [Array.getD, hi] at hlst
  ·intro i _ o ho
   exact hp o (by simpa using Array.mem_of_getElem? ho)
theorem AL.splitL {cx : Cx} {nt0 : Nat} {K : Exit → AState → Prop} {r : List CI} {S : AState} {id : Nat} {L : List Oper} {o : Oper} (hl : L.getLast? = some o) (hL : L = L.dropLast ++ [o]) (hf : P.follows .mixedOrders = true) (hnb : cx.base + cx.n ≤ cx.nb) (hok : splitOk cx.n L.dropLast.toArray o = true)
  (h : FReg P cx L.dropLast.toArray true (fun S' => FReg P cx #[o] false (AL P cx nt0 K r) S') S) : AL P cx nt0 K (.c (.region id L.toArray true) :: r) S := by
 refine AL.split (ops := L.dropLast.toArray) (o := o) ?_ hf hnb hok h
 rw [List.push_toArray, ← hL]
end Go.AM
namespace Go.AM
open Go Go.Proofs
def addX (node kind other : Int) (out : Bool) : E := if out = true then ⟨kind, node, other⟩ else ⟨kind, other, node⟩
def addL (t : Ty) (g : Gr) (node kind : Int) (out : Bool) (other : Int) (nodes : List Int) : List Gr :=
 if fitB t kind (nodes.getD (addX node kind other out).fr.toNat 0) (nodes.getD (addX node kind other out).to.toNat 0) = true then [⟨nodes, g.edges ++ [addX node kind other out]⟩] else []
structure Ac3 where
 own : Own
 tok : Nat → Bool
 nt : Nat
def Ac3.add (x : Ac3) (b : Bool) : Ac3 := if b = true then ⟨.tok (x.nt + 2), upd (x.own.kill (upd (upd (upd x.tok x.nt true) x.nt false) (x.nt + 1) true)) (x.nt + 2) true, x.nt + 3⟩ else x
structure Ac3.Ok (x : Ac3) (tok : Nat → Bool) (nt : Nat) : Prop where
 adv : Adv tok nt .full x.tok x.nt x.own
 lt : ∀ t, tok t = true → t < nt
theorem Ac3.Ok.add {x : Ac3} {tok : Nat → Bool} {nt : Nat} (h : x.Ok tok nt) (b : Bool) : (x.add b).Ok tok nt := by
 unfold Ac3.add
 split
 ·have had := Adv.fresh h.adv.live h.adv.lt
  exact ⟨h.adv.trans h.lt (had.trans h.adv.lt (Adv.app had.live had.lt)), h.lt⟩
 ·exact h
theorem Ac3.Ok.tk {x : Ac3} {tok : Nat → Bool} {nt : Nat} (h : x.Ok tok nt) : TK tok nt x.tok x.nt [x.own] :=
 ⟨fun t ht => h.adv.keep t ht (by simp), h.lt, h.adv.le, fun o ho t e => by
  rw [List.mem_singleton] at ho
  subst ho
  have hl := h.adv.live
  rw [e] at hl
  refine ⟨hl, ?_, h.adv.lt t hl⟩
  rcases h.adv.new with e2 | ⟨s, e2, hs⟩
  ·rw [e] at e2; cases e2
  ·rw [e] at e2; cases e2; exact hs, List.pairwise_singleton _ _⟩
def addB (t : Ty) (node kind : Int) (out : Bool) (other : Int) (nodes : List Int) : Bool := fitB t kind (nodes.getD (addX node kind other out).fr.toNat 0) (nodes.getD (addX node kind other out).to.toNat 0)
abbrev Gr.cells (g : Gr) : List D := [ints g.nodes, AM.edges g.edges]
abbrev grs (l : List Gr) : D := .sl 2 (l.map Gr.cells)
theorem larger1_c (t : Ty) (ht : t.Fit) (g : Gr) (hg : g.Fit) (node kind : Int) (out : Bool) (other : Int) (nodes : List Int) (L : List Gr) (own : Own) (hn : 0 ≤ node ∧ node < nodes.length) (ho : 0 ≤ other ∧ other < nodes.length) (hL : L.length ≤ 1000000) (box : Nat → Option (List (List AV))) (nb k1 k2 k3 k4 k5 k6 : Nat) (tok : Nat → Bool) (nt : Nat) (hlive : own.liveP tok) (h1 : box k1 = some [[I node]]) (h2 : box k2 = some [[I kind]]) (h3 : box k3 = some [[B out]]) (h4 : box k4 = some [[.d (nts t.nodes), .d (ets t.edges)]]) (h5 : box k5 = some [[.osl 2 (L.map Gr.cells) own]]) (h6 : box k6 = some [[.d (ints g.nodes), .d (AM.edges g.edges)]]) :
  ACalls Tryz.prog 111 [I other, .d (ints nodes), .ptr k2 0 0, .ptr k1 0 0, .ptr k3 0 0, .ptr k4 0 0, .ptr k5 0 0, .ptr k6 0 0] ⟨box, nb, tok, nt⟩ fun v m => v = .tup [] ∧ m = ⟨upd box k5 (some [[.osl 2 ((L ++ addL t g node kind out other nodes).map Gr.cells) ((Ac3.mk own tok nt).add (addB t node kind out other nodes)).own]]), nb, ((Ac3.mk own tok nt).add (addB t node kind out other nodes)).tok, ((Ac3.mk own tok nt).add (addB t node kind out other nodes)).nt⟩ := by
 have hself : box = upd box k5 (some [[.osl 2 (L.map Gr.cells) own]]) := (upd_self box k5 _ h5).symm
 obtain ⟨a, rfl⟩ := Int.eq_ofNat_of_zero_le hn.1
 obtain ⟨b, rfl⟩ := Int.eq_ofNat_of_zero_le ho.1
 have ha : a < nodes.length := by omega
 have hb : b < nodes.length := by omega
 have f1 := fits_c4 t ht kind nodes[a] nodes[b]
 have f2 := fits_c4 t ht kind nodes[b] nodes[a]
 cases out
 ·have hA : addL t g a kind false b nodes = if fitB t kind nodes[b] nodes[a] = true then [⟨nodes, g.edges ++ [⟨kind, b, a⟩]⟩] else [] := by simp [addL, addX, ha, hb]
  have hB : addB t a kind false b nodes = fitB t kind nodes[b] nodes[a] := by simp [addB, addX, ha, hb]
  rw [hA, hB]
  generalize fitB t kind nodes[b] nodes[a] = R at *
  refine sB Tryz.func111 Tryz.ntmps111 ?_
  intro hbox htok
  simp only at hbox htok
  apply AL.start
  have q1 := lb_out (key_lt hbox h1)
  have q2 := lb_out (key_lt hbox h2)
  have q3 := lb_out (key_lt hbox h3)
  have q4 := lb_out (key_lt hbox h4)
  have q5 := lb_out (key_lt hbox h5)
  have q6 := lb_out (key_lt hbox h6)
  try (simp [q1, q2, q3, q4, q5, q6, h1, h2, h3, h4, h5, h6])
  repeat (refine sR ?_; simp [q1, q2, q3, q4, q5, q6, h1, h2, h3, h4, h5, h6])
  refine sC ?_
  simp
  have hk1 := key_lt hbox h1
  refine sN ?_
  refine AL.region3 follows_Tryz (Nat.le_refl _) (by kernel_rfl) (Side.of (by simp)) [(Operand.tmp 3, Operand.tmp 19)] (by kernel_rfl) ?_
  simp [q1, q2, q3, q4, q5, q6, h1, h2, h3, h4, h5, h6, ha, hb, cls]
  refine ⟨by omega, ?_⟩
  try (simp [q1, q2, q3, q4, q5, q6, h1, h2, h3, h4, h5, h6, ha, hb])
  repeat (refine sR ?_; simp [q1, q2, q3, q4, q5, q6, h1, h2, h3, h4, h5, h6, ha, hb])
  refine Stop.of_d (f2 _ _) ?_
  simp
  cases R
  ·refine sC ?_
   simp
   refine sE ?_
   refine ⟨.inl rfl, (Fin.own (vs := []) (av := .tup []) (by simp [resAs, resA]) hbox rfl (Nat.le_refl _) (by simp [packA])).mono fun v m hq => ⟨hq.1, ?_⟩⟩
   rw [hq.2]
   simp [← hself, Ac3.add]
  ·have hk5 := key_lt hbox h5
   have hge := hg.e
   have had := Adv.fresh hlive htok
   refine sC ?_
   simp
   try (simp [q1, q2, q3, q4, q5, q6, h1, h2, h3, h4, h5, h6, ha, hb])
   repeat (refine sR ?_; simp [q1, q2, q3, q4, q5, q6, h1, h2, h3, h4, h5, h6, ha, hb])
   refine Stop.of_d (cloneE_c g.edges hg.e _ _) ?_
   simp [q5, h5, upd_lb_out hk5]
   refine ⟨⟨by omega, upd_same _ _ _⟩, ⟨by omega, had.live⟩, ?_⟩
   refine sE ?_
   refine ⟨.inl rfl, (Fin.gen (vs := []) (av := .tup []) (tok' := upd (own.kill (upd (upd (upd tok nt true) nt false) (nt + 1) true)) (nt + 2) true) (nt' := nt + 3) (by simp [resAs, resA]) ?_ (by omega) (Nat.le_refl _) (fun t h => ⟨h, .inl rfl⟩) ?_ (by simp [packA])).mono fun v m hq => ⟨hq.1, ?_⟩⟩
   ·rw [← upd_lb_out hk5, hbox]
   ·intro k' rows hk' hr
    by_cases e : k' = k5
    ·subst e
     rw [upd_same] at hr
     cases hr
     exact .inr (by simp)
    ·rw [upd_other _ _ e] at hr
     exact .inl hr
   ·rw [hq.2]
    simp [Gr.cells, rE, AM.edges, Ac3.add]
 ·have hA : addL t g a kind true b nodes = if fitB t kind nodes[a] nodes[b] = true then [⟨nodes, g.edges ++ [⟨kind, a, b⟩]⟩] else [] := by simp [addL, addX, ha, hb]
  have hB : addB t a kind true b nodes = fitB t kind nodes[a] nodes[b] := by simp [addB, addX, ha, hb]
  rw [hA, hB]
  generalize fitB t kind nodes[a] nodes[b] = R at *
  refine sB Tryz.func111 Tryz.ntmps111 ?_
  intro hbox htok
  simp only at hbox htok
  apply AL.start
  have q1 := lb_out (key_lt hbox h1)
  have q2 := lb_out (key_lt hbox h2)
  have q3 := lb_out (key_lt hbox h3)
  have q4 := lb_out (key_lt hbox h4)
  have q5 := lb_out (key_lt hbox h5)
  have q6 := lb_out (key_lt hbox h6)
  try (simp [q1, q2, q3, q4, q5, q6, h1, h2, h3, h4, h5, h6])
  repeat (refine sR ?_; simp [q1, q2, q3, q4, q5, q6, h1, h2, h3, h4, h5, h6])
  refine sC ?_
  simp
  try (simp [q1, q2, q3, q4, q5, q6, h1, h2, h3, h4, h5, h6, ha, hb])
  repeat (refine sR ?_; simp [q1, q2, q3, q4, q5, q6, h1, h2, h3, h4, h5, h6, ha, hb])
  refine Stop.of_d (f1 _ _) ?_
  simp
  cases R
  ·refine sC ?_
   simp
   refine sE ?_
   refine ⟨.inl rfl, (Fin.own (vs := []) (av := .tup []) (by simp [resAs, resA]) hbox rfl (Nat.le_refl _) (by simp [packA])).mono fun v m hq => ⟨hq.1, ?_⟩⟩
   rw [hq.2]
   simp [← hself, Ac3.add]
  ·have hk5 := key_lt hbox h5
   have hge := hg.e
   have had := Adv.fresh hlive htok
   refine sC ?_
   simp
   try (simp [q1, q2, q3, q4, q5, q6, h1, h2, h3, h4, h5, h6, ha, hb])
   repeat (refine sR ?_; simp [q1, q2, q3, q4, q5, q6, h1, h2, h3, h4, h5, h6, ha, hb])
   refine Stop.of_d (cloneE_c g.edges hg.e _ _) ?_
   simp [q5, h5, upd_lb_out hk5]
   refine ⟨⟨by omega, upd_same _ _ _⟩, ⟨by omega, had.live⟩, ?_⟩
   refine sE ?_
   refine ⟨.inl rfl, (Fin.gen (vs := []) (av := .tup []) (tok' := upd (own.kill (upd (upd (upd tok nt true) nt false) (nt + 1) true)) (nt + 2) true) (nt' := nt + 3) (by simp [resAs, resA]) ?_ (by omega) (Nat.le_refl _) (fun t h => ⟨h, .inl rfl⟩) ?_ (by simp [packA])).mono fun v m hq => ⟨hq.1, ?_⟩⟩
   ·rw [← upd_lb_out hk5, hbox]
   ·intro k' rows hk' hr
    by_cases e : k' = k5
    ·subst e
     rw [upd_same] at hr
     cases hr
     exact .inr (by simp)
    ·rw [upd_other _ _ e] at hr
     exact .inl hr
   ·rw [hq.2]
    simp [Gr.cells, rE, AM.edges, Ac3.add]
end Go.AM
namespace Go.AM
open Go Go.Proofs
def flatN {α : Type} (f : Nat → List α) : Nat → List α
 | 0 => []
 | n + 1 => flatN f n ++ f n
theorem flatN_len {α : Type} {f : Nat → List α} (h : ∀ i, (f i).length ≤ 1) : ∀ n, (flatN f n).length ≤ n
 | 0 => Nat.le_refl _
 | n + 1 => by
  have := flatN_len h n
  have := h n
  simp only [flatN, List.length_append]
  omega
theorem addL_len (t : Ty) (g : Gr) (node kind : Int) (out : Bool) (other : Int) (nodes : List Int) : (addL t g node kind out other nodes).length ≤ 1 := by
 unfold addL
 split <;> simp
def lrA (t : Ty) (g : Gr) (node kind : Int) (out : Bool) (i : Nat) : List Gr := if (out || ((i : Int) != node)) = true then addL t g node kind out i g.nodes else []
def lrB (t : Ty) (g : Gr) (node kind : Int) (out : Bool) (k : Nat) : List Gr := if leafB t k = true then addL t g node kind out g.nodes.length (g.nodes ++ [(k : Int)]) else []
theorem lrA_len (t : Ty) (g : Gr) (node kind : Int) (out : Bool) (i : Nat) : (lrA t g node kind out i).length ≤ 1 := by
 unfold lrA
 split
 ·exact addL_len _ _ _ _ _ _ _
 ·simp
theorem lrB_len (t : Ty) (g : Gr) (node kind : Int) (out : Bool) (i : Nat) : (lrB t g node kind out i).length ≤ 1 := by
 unfold lrB
 split
 ·exact addL_len _ _ _ _ _ _ _
 ·simp
def lrgL (t : Ty) (g : Gr) (node kind : Int) (out : Bool) : List Gr := flatN (lrA t g node kind out) g.nodes.length ++ flatN (lrB t g node kind out) t.nodes.length
def Ac3.cl (x : Ac3) : Ac3 := ⟨x.own, upd x.tok x.nt true, x.nt + 1⟩
def Ac3.cl2 (x : Ac3) : Ac3 := ⟨x.own, upd (upd (upd x.tok x.nt true) x.nt false) (x.nt + 1) true, x.nt + 2⟩
theorem Ac3.Ok.cl {x : Ac3} {tok : Nat → Bool} {nt : Nat} (h : x.Ok tok nt) : x.cl.Ok tok nt := by
 refine ⟨h.adv.trans h.lt ⟨fun t ht _ => ?_, Nat.le_succ _, ?_, .inl rfl, fun t ht => ?_⟩, h.lt⟩
 ·simp only [Ac3.cl, upd]; split; rfl; exact ht
 ·have := h.adv.live
  show x.own.liveP (upd x.tok x.nt true)
  cases e : x.own with
  | full => trivial
  | tok s =>
   rw [e] at this
   simp only [Own.liveP, upd] at this ⊢
   split; rfl; exact this
 ·simp only [Ac3.cl, upd] at ht ⊢
  split at ht
  ·omega
  ·have := h.adv.lt t ht; omega
theorem Ac3.Ok.cl2 {x : Ac3} {tok : Nat → Bool} {nt : Nat} (h : x.Ok tok nt) : x.cl2.Ok tok nt := ⟨h.adv.trans h.lt (Adv.fresh h.adv.live h.adv.lt), h.lt⟩
theorem Ac3.Ok.start {tok : Nat → Bool} {nt : Nat} (h : ∀ t, tok t = true → t < nt) : (Ac3.mk .full tok nt).Ok tok nt := ⟨Adv.refl trivial h, h⟩
def acA (t : Ty) (g : Gr) (node kind : Int) (out : Bool) (x : Ac3) : Nat → Ac3
 | 0 => x
 | i + 1 => if (out || ((i : Int) != node)) = true then (acA t g node kind out x i).cl.add (addB t node kind out i g.nodes) else acA t g node kind out x i
def acB (t : Ty) (g : Gr) (node kind : Int) (out : Bool) (x : Ac3) : Nat → Ac3
 | 0 => x
 | k + 1 => if leafB t k = true then (acB t g node kind out x k).cl2.add (addB t node kind out g.nodes.length (g.nodes ++ [(k : Int)])) else acB t g node kind out x k
theorem acA_ok {t : Ty} {g : Gr} {node kind : Int} {out : Bool} {x : Ac3} {tok : Nat → Bool} {nt : Nat} (h : x.Ok tok nt) : ∀ i, (acA t g node kind out x i).Ok tok nt
 | 0 => h
 | i + 1 => by
  unfold acA
  split
  ·exact ((acA_ok h i).cl).add _
  ·exact acA_ok h i
theorem acB_ok {t : Ty} {g : Gr} {node kind : Int} {out : Bool} {x : Ac3} {tok : Nat → Bool} {nt : Nat} (h : x.Ok tok nt) : ∀ i, (acB t g node kind out x i).Ok tok nt
 | 0 => h
 | i + 1 => by
  unfold acB
  split
  ·exact ((acB_ok h i).cl2).add _
  ·exact acB_ok h i
def lrgX (t : Ty) (g : Gr) (node kind : Int) (out : Bool) (x : Ac3) : Ac3 := acB t g node kind out (acA t g node kind out x g.nodes.length) t.nodes.length
abbrev lgBox (t : Ty) (g : Gr) (node kind : Int) (out : Bool) (L : List Gr) (own : Own) : List (Nat × List (List AV)) :=
 [(11, [[.osl 2 (L.map Gr.cells) own]]), (9, [[B out]]), (8, [[I kind]]), (7, [[I node]]), (6, [[.d (ints g.nodes), .d (AM.edges g.edges)]]), (5, [[.d (nts t.nodes), .d (ets t.edges)]])]
abbrev lgF (nb : Nat) : AV := .fn (.func 111) [.ptr (nb + 8) 0 0, .ptr (nb + 7) 0 0, .ptr (nb + 9) 0 0, .ptr (nb + 5) 0 0, .ptr (nb + 11) 0 0, .ptr (nb + 6) 0 0]
theorem lgF_to {t : Ty} {g : Gr} {node kind : Int} {out : Bool} {L : List Gr} {own : Own} {nb : Nat} {box : Nat → Option (List (List AV))} {q : Nat → Prop} : To (fun k => ¬lb nb box (lgBox t g node kind out L own) k = none) q none (lgF nb) (lgF nb) :=
 .same (.fn (by simp [lb_at, lk]))
def stLa (t : Ty) (g : Gr) (node kind : Int) (out : Bool) (nb : Nat) (box : Nat → Option (List (List AV))) (i : Nat) (L : List Gr) (x : Ac3) : AState :=
 ⟨tl [(19, I i), (18, I g.nodes.length), (17, .d (ints g.nodes)), (12, lgF nb), (11, .ptr (nb + 11) 0 0), (9, .ptr (nb + 9) 0 0), (7, .ptr (nb + 7) 0 0), (6, .ptr (nb + 6) 0 0), (5, .ptr (nb + 5) 0 0)],
  lb nb box (lgBox t g node kind out L x.own), x.tok, x.nt⟩
def stLb (t : Ty) (g : Gr) (node kind : Int) (out : Bool) (nb : Nat) (box : Nat → Option (List (List AV))) (k : Nat) (L : List Gr) (x : Ac3) : AState :=
 ⟨tl [(38, I k), (37, I t.nodes.length), (12, lgF nb), (11, .ptr (nb + 11) 0 0), (6, .ptr (nb + 6) 0 0), (5, .ptr (nb + 5) 0 0)],
  lb nb box (lgBox t g node kind out L x.own), x.tok, x.nt⟩
theorem larger_c (t : Ty) (ht : t.Fit) (g : Gr) (hg : g.Fit) (hgn : g.nodes.length ≤ 1000) (node kind : Int) (out : Bool) (hn : 0 ≤ node ∧ node < g.nodes.length) (tok : Nat → Bool) (nt : Nat) :
  DCall Tryz.prog 56 [t.av, g.av, I node, I kind, B out] tok nt (.osl 2 ((lrgL t g node kind out).map Gr.cells) (lrgX t g node kind out ⟨.full, tok, nt⟩).own) (lrgX t g node kind out ⟨.full, tok, nt⟩).tok (lrgX t g node kind out ⟨.full, tok, nt⟩).nt := by
 intro box nb
 have htn := ht.n
 refine sB Tryz.func56 Tryz.ntmps56 ?_
 intro hbox htok
 simp only at hbox htok
 apply AL.start
 have hx0 := Ac3.Ok.start htok
 try (simp)
 repeat (refine sR ?_; simp)
 refine sN ?_
 refine AL.loopT (fun i => stLa t g node kind out nb box i (flatN (lrA t g node kind out) i) (acA t g node kind out ⟨.full, tok, nt⟩ i)) (fun i => i ≤ g.nodes.length) (fun i => g.nodes.length - i) 0 (Nat.zero_le _) (Weaks.mk (Nat.le_refl _) rfl (by simp [ToL, lk, lb_at, acA, lgF_to]) (by simp [BoxL, lk, acA, flatN])) ?_
 rintro i S' hi hS
 simp only [stLa] at hS
 subst hS
 have hx := acA_ok (t := t) (g := g) (node := node) (kind := kind) (out := out) hx0 i
 have hlen := flatN_len (lrA_len t g node kind out) i
 have hstL : flatN (lrA t g node kind out) (i + 1) = flatN (lrA t g node kind out) i ++ lrA t g node kind out i := rfl
 have hstX : acA t g node kind out ⟨.full, tok, nt⟩ (i + 1) = if (out || ((i : Int) != node)) = true then (acA t g node kind out ⟨.full, tok, nt⟩ i).cl.add (addB t node kind out i g.nodes) else acA t g node kind out ⟨.full, tok, nt⟩ i := rfl
 have hlA : lrA t g node kind out i = if (out || ((i : Int) != node)) = true then addL t g node kind out i g.nodes else [] := rfl
 have hw := sW (i := i) (by omega)
 try (simp)
 repeat (refine sR ?_; simp)
 refine sC ?_
 simp
 refine ⟨fun hlt => ?_, fun hge => ?_⟩
 ·generalize hX2 : acA t g node kind out ⟨.full, tok, nt⟩ (i + 1) = x2 at *
  generalize acA t g node kind out ⟨.full, tok, nt⟩ i = x at *
  generalize hL2 : flatN (lrA t g node kind out) (i + 1) = L2 at *
  generalize flatN (lrA t g node kind out) i = L at *
  generalize lrA t g node kind out i = A at *
  have hxl := hx.adv.live
  cases hc : (out || ((i : Int) != node))
  ·rw [hc, if_neg (by simp)] at hstX hlA
   simp only [Bool.or_eq_false_iff] at hc
   obtain ⟨rfl, hc2⟩ := hc
   rw [hlA, List.append_nil] at hstL
   try (simp [hc2])
   repeat (refine sR ?_; simp [hc2])
   refine sC ?_
   simp [hc2]
   try (simp [hw])
   repeat (refine sR ?_; simp [hw])
   refine sE ?_
   refine ⟨i + 1, hlt, by omega, ?_⟩
   rw [hX2, hL2, hstL, hstX]
   exact Weaks.mk (by have := hx.adv.le; omega) rfl (by simp [ToL, lk, lb_at, lgF_to]) (by simp [BoxL, lk])
  ·rw [hc, if_pos rfl] at hstX hlA
   have hl1 := fun (b : Nat → Option (List (List AV))) q1 q2 q3 q4 q5 q6 => larger1_c t ht g hg node kind out i g.nodes L x.own ⟨hn.1, hn.2⟩ ⟨by omega, by omega⟩ (by omega) b (nb + 57) (nb + 7) (nb + 8) (nb + 9) (nb + 5) (nb + 11) (nb + 6) x.cl.tok x.cl.nt hx.cl.adv.live q1 q2 q3 q4 q5 q6
   have hcond : out = true ∨ out = false ∧ ((i : Int) != node) = true := by
    cases out
    ·exact .inr ⟨rfl, hc⟩
    ·exact .inl rfl
   clear hc
   rcases hcond with rfl | ⟨rfl, hc⟩
   ·try (simp)
    repeat (refine sR ?_; simp)
    refine sC ?_
    simp
    try (simp)
    repeat (refine sR ?_; simp)
    refine Stop.of_d (clone_c g.nodes hg.n _ _) ?_
    simp
    refine Stop.data ?_
    refine Stop.of_a (hl1 _ (by simp [lb_at, lk]) (by simp [lb_at, lk]) (by simp [lb_at, lk]) (by simp [lb_at, lk]) (by simp [lb_at, lk]) (by simp [lb_at, lk])) ?_
    rintro v m' ⟨rfl, rfl⟩
    simp only [FOps_nil]
    generalize hY : Ac3.add ⟨x.own, x.cl.tok, x.cl.nt⟩ (addB t node kind true i g.nodes) = y
    have hy : y.Ok tok nt := by rw [← hY]; exact hx.cl.add _
    have hxy : x2 = y := by rw [hstX, ← hY]; rfl
    try (simp [hw])
    repeat (refine sR ?_; simp [hw])
    refine sE ?_
    refine ⟨i + 1, hlt, by omega, ?_⟩
    rw [hX2, hL2, hstL, hlA, hxy]
    exact Weaks.mk (by have := hy.adv.le; omega) rfl (by simp [ToL, lk, lb_at, lgF_to]) (by simp [BoxL, lk])
   ·try (simp [hc])
    repeat (refine sR ?_; simp [hc])
    refine sC ?_
    simp [hc]
    try (simp)
    repeat (refine sR ?_; simp)
    refine Stop.of_d (clone_c g.nodes hg.n _ _) ?_
    simp
    refine Stop.data ?_
    refine Stop.of_a (hl1 _ (by simp [lb_at, lk]) (by simp [lb_at, lk]) (by simp [lb_at, lk]) (by simp [lb_at, lk]) (by simp [lb_at, lk]) (by simp [lb_at, lk])) ?_
    rintro v m' ⟨rfl, rfl⟩
    simp only [FOps_nil]
    generalize hY : Ac3.add ⟨x.own, x.cl.tok, x.cl.nt⟩ (addB t node kind false i g.nodes) = y
    have hy : y.Ok tok nt := by rw [← hY]; exact hx.cl.add _
    have hxy : x2 = y := by rw [hstX, ← hY]; rfl
    try (simp [hw])
    repeat (refine sR ?_; simp [hw])
    refine sE ?_
    refine ⟨i + 1, hlt, by omega, ?_⟩
    rw [hX2, hL2, hstL, hlA, hxy]
    exact Weaks.mk (by have := hy.adv.le; omega) rfl (by simp [ToL, lk, lb_at, lgF_to]) (by simp [BoxL, lk])
 ·refine sX ?_
  simp only [AU, ↓reduceIte]
  have : i = g.nodes.length := by omega
  subst this
  have hlrg : lrgX t g node kind out ⟨.full, tok, nt⟩ = acB t g node kind out (acA t g node kind out ⟨.full, tok, nt⟩ g.nodes.length) t.nodes.length := rfl
  have hlrl : lrgL t g node kind out = flatN (lrA t g node kind out) g.nodes.length ++ flatN (lrB t g node kind out) t.nodes.length := rfl
  rw [hlrg, hlrl]
  clear hstL hstX hlA hlrg hlrl hw
  generalize acA t g node kind out ⟨.full, tok, nt⟩ g.nodes.length = x at *
  generalize flatN (lrA t g node kind out) g.nodes.length = L at *
  try (simp)
  repeat (refine sR ?_; simp)
  refine sN ?_
  refine AL.loopT (fun k => stLb t g node kind out nb box k (L ++ flatN (lrB t g node kind out) k) (acB t g node kind out x k)) (fun k => k ≤ t.nodes.length) (fun k => t.nodes.length - k) 0 (Nat.zero_le _) (Weaks.mk (by have := hx.adv.le; omega) rfl (by simp [ToL, lk, lb_at, acB, lgF_to]) (by simp [BoxL, lk, acB, flatN])) ?_
  rintro k S' hk hS
  simp only [stLb] at hS
  subst hS
  have hxk := acB_ok (t := t) (g := g) (node := node) (kind := kind) (out := out) hx k
  have hlk := flatN_len (lrB_len t g node kind out) k
  have hstL : flatN (lrB t g node kind out) (k + 1) = flatN (lrB t g node kind out) k ++ lrB t g node kind out k := rfl
  have hstX : acB t g node kind out x (k + 1) = if leafB t k = true then (acB t g node kind out x k).cl2.add (addB t node kind out g.nodes.length (g.nodes ++ [(k : Int)])) else acB t g node kind out x k := rfl
  have hlA : lrB t g node kind out k = if leafB t k = true then addL t g node kind out g.nodes.length (g.nodes ++ [(k : Int)]) else [] := rfl
  have hw := sW (i := k) (by omega)
  try (simp)
  repeat (refine sR ?_; simp)
  refine sC ?_
  simp
  refine ⟨fun hlt => ?_, fun hge => ?_⟩
  ·generalize hX2 : acB t g node kind out x (k + 1) = x2 at *
   generalize acB t g node kind out x k = y at *
   generalize hL2 : flatN (lrB t g node kind out) (k + 1) = L2 at *
   generalize flatN (lrB t g node kind out) k = M at *
   generalize lrB t g node kind out k = A at *
   have hc := leaf_c t (by omega) k
   try (simp)
   repeat (refine sR ?_; simp)
   refine Stop.of_d (hc _ _) ?_
   simp
   cases e1 : leafB t k
   ·rw [e1, if_neg (by simp)] at hstX hlA
    try (simp)
    repeat (refine sR ?_; simp)
    refine sC ?_
    simp
    try (simp [hw])
    repeat (refine sR ?_; simp [hw])
    refine sE ?_
    refine ⟨k + 1, hlt, by omega, ?_⟩
    rw [hX2, hL2, hstL, hstX, hlA]
    exact Weaks.mk (by have := hxk.adv.le; omega) rfl (by simp [ToL, lk, lb_at, lgF_to]) (by simp [BoxL, lk])
   ·rw [e1, if_pos rfl] at hstX hlA
    have hl1 := fun (b : Nat → Option (List (List AV))) q1 q2 q3 q4 q5 q6 => larger1_c t ht g hg node kind out g.nodes.length (g.nodes ++ [(k : Int)]) (L ++ M) y.own ⟨hn.1, by simp; omega⟩ ⟨by omega, by simp; omega⟩ (by simp; omega) b (nb + 57) (nb + 7) (nb + 8) (nb + 9) (nb + 5) (nb + 11) (nb + 6) y.cl2.tok y.cl2.nt hxk.cl2.adv.live q1 q2 q3 q4 q5 q6
    try (simp)
    repeat (refine sR ?_; simp)
    refine sC ?_
    simp
    refine sN ?_
    refine AL.splitL (by rfl) (by rfl) follows_Tryz (Nat.le_refl _) (by kernel_rfl) ?_
    simp
    refine Stop.of_d (clone_c g.nodes hg.n _ _) ?_
    simp
    refine ⟨⟨by omega, upd_same _ _ _⟩, ?_⟩
    rw [show rI g.nodes ++ [[D.raw (.int .i64 (k : Int))]] = rI (g.nodes ++ [(k : Int)]) by simp [rI]]
    refine Stop.data ?_
    refine Stop.of_a (hl1 _ (by simp [lb_at, lk]) (by simp [lb_at, lk]) (by simp [lb_at, lk]) (by simp [lb_at, lk]) (by simp [lb_at, lk]) (by simp [lb_at, lk])) ?_
    rintro v m' ⟨rfl, rfl⟩
    simp only [FOps_nil]
    generalize hY : Ac3.add ⟨y.own, y.cl2.tok, y.cl2.nt⟩ (addB t node kind out g.nodes.length (g.nodes ++ [(k : Int)])) = z
    have hz : z.Ok tok nt := by rw [← hY]; exact hxk.cl2.add _
    have hxz : x2 = z := by rw [hstX, ← hY]; rfl
    try (simp [hw])
    repeat (refine sR ?_; simp [hw])
    refine sE ?_
    refine ⟨k + 1, hlt, by omega, ?_⟩
    rw [hX2, hL2, hstL, hlA, hxz]
    exact Weaks.mk (by have := hz.adv.le; omega) rfl (by simp [ToL, lk, lb_at, lgF_to]) (by simp [BoxL, lk])
  ·refine sX ?_
   simp only [AU, ↓reduceIte]
   have : k = t.nodes.length := by omega
   subst this
   generalize acB t g node kind out x t.nodes.length = y at *
   try (simp)
   repeat (refine sR ?_; simp)
   refine sN ?_
   refine AL.ret ?_
   try simp only [AU]
   refine ⟨by simp, Fin.own (by simp [resAs, resA]; rfl) hbox rfl hxk.adv.le ?_⟩
   simp [packA]
end Go.AM
